/- Texts that the proof rests on, part 3: what each holds stands at its head. -/
import Derived.Test.YtgkkilbeingleaaZo2
import Derived.Great.BuildSlice
import Derived.MapKept

/- Operations that lay new things, on abstract memory. Nothing of the program is named here. -/
namespace Go.Proofs.Ytgkkilbeingleaa
open Go.RowKit Go.Maps

inductive AOp where
  | nw (t : TypeId) (z : List AV)
  | bx (t : TypeId)
  | bs (t sz len : Nat) (z : List AV) (pl : List (Nat × Nat))
  | ms (t sz bytes : Nat) (z : List AV)
  | mm (kt : TypeId)
inductive AlR (id : Nat) : AOp → List AV → AO → AV → Prop
  | nw (t : TypeId) (z : List AV) : AlR id (.nw t z) [] (.box t z) (.ptr id 0)
  | bx (t : TypeId) (a : AV) : a.part = true → AlR id (.bx t) [a] (.box t a.cells) (.ptr id 0)
  | bs (t sz len : Nat) (z : List AV) (pl : List (Nat × Nat)) (xs : List AV) (es : List (List AV)) : xs.all AV.part = true → es.length = len → (∀ e ∈ es, e.length = sz) → fillA (List.replicate len z).flatten pl xs = some es.flatten →
      AlR id (.bs t sz len z pl) xs (.row t sz es) (.osl id sz 0 len)
  | ms (t sz bytes : Nat) (z : List AV) (k k' : IntKind) (l c : Int) : 0 ≤ l → l ≤ c → c ≤ maxLen → c * bytes ≤ 140737488355328 → AlR id (.ms t sz bytes z) [.p (.int k l), .p (.int k' c)] (.row t sz (List.replicate l.toNat z)) (.osl id sz 0 l.toNat)
  | mm (kt : TypeId) : AlR id (.mm kt) [] (.map kt 0 (fun _ => none)) (.mp id)
def clsA (P : Program) (o : Op) : Option (AOp × List Operand) :=
  match o with
  | .alloc t => (zeroA P t).map fun z => (.nw t z, [])
  | .box t x => some (.bx t, [x])
  | .buildSlice t len parts => match P.underlying t with
    | some (.slice e) => match zeroA P e, P.info? e with
      | some z, some j => if j.size = 0 ∨ z.length ≠ j.size ∨ len * j.size > 2 ^ 24 ∨ len > maxLen then none else some (.bs e j.size len z (parts.toList.map fun x => (x.1 * j.size, j.size)), parts.toList.map (·.2))
      | _, _ => none
    | _ => none
  | .makeSlice t l c => match P.underlying t with
    | some (.slice e) => match zeroA P e, P.info? e with
      | some z, some j => if j.size = 0 ∨ z.length ≠ j.size then none else some (.ms e j.size j.bytes z, [l, c])
      | _, _ => none
    | _ => none
  | .makeMap t r => match P.underlying t, r with
    | some (.map kt _), none => some (.mm kt, [])
    | some (.map kt _), some (.const (.int _ _)) => some (.mm kt, [])
    | _, _ => none
  | _ => none

/-- what an operation does -/
def Eff (P : Program) (w : World) (S : Nat → Prop) (σ : Nat → Option Value) (H : AH) (ev : Operand → Value) (o : Oper) (id : Nat) (a : AV) (H' : AH) : Prop :=
  ∃ nx w' σ', (execOp ev o).run P w = .ok nx w' ∧ ((∃ v, nx = .value v ∧ Rp w' S σ' a v) ∨ (nx = .skip ∧ a = .any)) ∧ Sat P w' S σ' H' ∧ Ext w S σ H w' S σ' H' ∧ ∀ j, j ≠ id → σ' j = σ j

section
variable {P : Program} {w : World} {S : Nat → Prop} {σ : Nat → Option Value} {ev : Operand → Value} {H : AH}
theorem flat_at {z : List AV} (hz : 0 < z.length) : ∀ (n i : Nat), i < n * z.length → (List.replicate n z).flatten[i]? = z[i % z.length]?
  | 0, i, h => by simp at h
  | n + 1, i, h => by
    rw [List.replicate_succ, List.flatten_cons]
    by_cases hi : i < z.length
    · rw [List.getElem?_append_left hi, Nat.mod_eq_of_lt hi]
    · rw [List.getElem?_append_right (by omega), flat_at hz n (i - z.length) (by rw [Nat.add_mul, Nat.one_mul] at h; omega), Nat.mod_eq_sub_mod (a := i) (by omega)]
theorem flat_len {z : List AV} (n : Nat) : (List.replicate n z).flatten.length = n * z.length := by
  induction n with
  | zero => simp
  | succ n ih => rw [List.replicate_succ, List.flatten_cons, List.length_append, ih, Nat.add_mul]; omega
theorem zeros_rep {z : List AV} {zs : Array Value} (hr : Rps w S σ z zs.toList) (h1 : ∀ u ∈ zs, u.oneCell' = true) (hz : 0 < z.length) (n : Nat) :
    Rps w S σ (List.replicate n z).flatten ((Array.range (n * zs.size)).map (zs[· % zs.size]!)).toList ∧ ∀ u ∈ (Array.range (n * zs.size)).map (zs[· % zs.size]!), u.oneCell' = true := by
  have hl : z.length = zs.size := by rw [hr.1, Array.length_toList]
  have hat : ∀ i, i < n * zs.size → ∃ u, ((Array.range (n * zs.size)).map (zs[· % zs.size]!))[i]? = some u ∧ zs[i % zs.size]? = some u := by
    intro i hi
    have hm : i % zs.size < zs.size := Nat.mod_lt _ (by omega)
    refine ⟨zs[i % zs.size], ?_, Array.getElem?_eq_getElem hm⟩
    simp [hi, hm]
  refine ⟨⟨by rw [flat_len, hl]; simp, fun i a v ha hv => ?_⟩, fun u hu => ?_⟩
  · have hi : i < n * z.length := by rw [← flat_len]; exact (List.getElem?_eq_some_iff.1 ha).1
    rw [flat_at hz n i hi] at ha
    obtain ⟨u, q1, q2⟩ := hat i (by rw [← hl]; exact hi)
    rw [Array.getElem?_toList, q1] at hv
    injection hv with hv
    subst hv
    exact hr.2 _ a _ ha (by rw [hl, Array.getElem?_toList]; exact q2)
  · obtain ⟨i, hi⟩ := Array.getElem?_of_mem hu
    have hlt : i < n * zs.size := by have := (Array.getElem?_eq_some_iff.1 hi).1; simpa using this
    obtain ⟨x, q1, q2⟩ := hat i hlt
    rw [q1] at hi
    injection hi with hi
    subst hi
    exact h1 _ (Array.mem_of_getElem? q2)
theorem alloc_keep (w : World) (o : Obj) : ∀ b, b < w.heap.size → (w.alloc o).heap[b]? = w.heap[b]? := fun b hb => Below.heap_alloc w o b hb
/-- a new block -/
theorem new_eff (hs : Sat P w S σ H) {w1 : World} (hw1 : w1.heap = w.heap ∧ w1.os = w.os ∧ w1.tape = w.tape ∧ w1.output = w.output) {id : Nat} (hid : id < H.nx) (hσ : σ id = none) {o' : AO} {u : Value} {ob : Obj} {o : Oper} {a : AV}
    (hu : blkOf u = some w.heap.size) (hobj : ObjOk P (w1.alloc ob) S (sput σ id u) id o') (hsl : ∀ A n c, u = .slice A n c → n ≤ c ∧ (0 < c → ∃ g o, A = some ⟨g, o, none⟩) ∧ c ≤ maxLen)
    {v : Value} (hrun : (execOp ev o).run P w = .ok (.value v) (w1.alloc ob)) (ha : Rp (w1.alloc ob) S (sput σ id u) a v) : Eff P w S σ H ev o id a (H.put id o') := by
  obtain ⟨e1, e2, e3, e4⟩ := hw1
  have hnone : ∀ x, σ id = some x → x = u := fun x hx => by rw [hσ] at hx; cases hx
  have hkeep : ∀ b, b < w.heap.size → (w1.alloc ob).heap[b]? = w.heap[b]? := fun b hb => (alloc_keep w1 ob b (by rw [e1]; exact hb)).trans (by rw [e1])
  have hsz : w.heap.size ≤ (w1.alloc ob).heap.size := by simp [e1]
  refine ⟨_, _, sput σ id u, hrun, .inl ⟨v, rfl, ha⟩, hs.upd hid hnone hsz (fun b hb _ => hkeep b hb) (fun b hb => ?_) hobj (fun j o b h1 h2 h3 => hs.lt h1 h2 h3) hsl,
    Ext.upd hs hnone e2 e3 e4 hsz (fun b hb _ => hkeep b hb) (fun b hb => ?_), fun j hj => sput_ne hj⟩
  · rw [hu] at hb; injection hb with hb; subst hb
    exact ⟨fun h => Nat.lt_irrefl _ (hs.sb _ h), fun j o _ h1 h2 h3 => Nat.lt_irrefl _ (hs.lt h1 h2 h3)⟩
  · rw [hu] at hb; injection hb with hb; subst hb; exact .inr (Nat.le_refl _)
theorem Rps.new {cs : List AV} {vs : List Value} (h : Rps w S σ cs vs) (hs : Sat P w S σ H) (ob : Obj) {id : Nat} {u : Value} (hσ : σ id = none) : Rps (w.alloc ob) S (sput σ id u) cs vs :=
  h.mono (fun _ h => h) (fun b hb => alloc_keep w ob b (hs.sb b hb)) (sput_ext fun x hx => by rw [hσ] at hx; cases hx)
theorem box_eff (hs : Sat P w S σ H) {id : Nat} (hid : id < H.nx) (hσ : σ id = none) {t : TypeId} {cs : List AV} {arr : Array Value} {o : Oper} (hr : Rps w S σ cs arr.toList) (h1 : ∀ u ∈ arr, u.oneCell' = true)
    (hrun : (execOp ev o).run P w = .ok (.value (.pointer (some ⟨w.heap.size, 0, none⟩))) (w.alloc (.cells arr t))) : Eff P w S σ H ev o id (.ptr id 0) (H.put id (.box t cs)) :=
  new_eff hs ⟨rfl, rfl, rfl, rfl⟩ hid hσ (u := .pointer (some ⟨w.heap.size, 0, none⟩)) rfl ⟨_, arr, sput_self, Blk.new w t arr, hr.new hs _ hσ, h1⟩ (fun _ _ _ h => by cases h) hrun (.ptr id 0 _ sput_self)
/-- a new row: cells that begin with the elements -/
theorem row_eff1 (hs : Sat P w S σ H) {w1 : World} (hw1 : w1.heap = w.heap ∧ w1.os = w.os ∧ w1.tape = w.tape ∧ w1.output = w.output) {id : Nat} (hid : id < H.nx) (hσ : σ id = none) {t sz c : Nat} {es : List (List AV)} {arr : Array Value} {o : Oper} {rest : List AV} (hes : ∀ e ∈ es, e.length = sz)
    (hr : Rps w S σ (es.flatten ++ rest) arr.toList) (h1 : ∀ u ∈ arr, u.oneCell' = true)
    (hc : es.length ≤ c) (hcm : c ≤ maxLen) (hcs : c * sz ≤ arr.size)
    (hrun : (execOp ev o).run P w = .ok (.value (.slice (some ⟨w.heap.size, 0, none⟩) es.length c)) (w1.alloc (.cells arr t))) : Eff P w S σ H ev o id (.osl id sz 0 es.length) (H.put id (.row t sz es)) := by
  have hr' : Rps (w1.alloc (.cells arr t)) S (sput σ id (.slice (some ⟨w.heap.size, 0, none⟩) es.length c)) (es.flatten ++ rest) arr.toList :=
    hr.mono (fun _ h => h) (fun b hb => (alloc_keep w1 _ b (by rw [hw1.1]; exact hs.sb b hb)).trans (by rw [hw1.1])) (sput_ext fun x hx => by rw [hσ] at hx; cases hx)
  have hbn : Blk (w1.alloc (.cells arr t)) w.heap.size t arr := by rw [← hw1.1]; exact Blk.new w1 t arr
  refine new_eff hs hw1 hid hσ (u := .slice (some ⟨w.heap.size, 0, none⟩) es.length c) rfl ⟨_, c, sput_self, hes, hc, hcm, .inr ⟨w.heap.size, 0, arr, rfl, hbn, by omega, h1, fun i e j a he ha => ?_⟩⟩ ?_ hrun ?_
  · have hf := flat_elem hes i e j a he ha
    have hlt := (List.getElem?_eq_some_iff.1 hf).1
    obtain ⟨v, hv, hrv⟩ := hr'.at_ (i := i * sz + j) (a := a) (by rw [List.getElem?_append_left hlt]; exact hf)
    rw [Array.getElem?_toList] at hv
    exact ⟨v, by rw [Nat.zero_add]; exact hv, hrv⟩
  · intro A n c' h
    injection h with h1 h2 h3
    subst h1; subst h2; subst h3
    exact ⟨hc, fun _ => ⟨_, _, rfl⟩, hcm⟩
  · exact .osl _ _ _ _ _ _ es.length c c sput_self hc (by omega) (fun _ => by simp [addr_add])
theorem row_eff (hs : Sat P w S σ H) {id : Nat} (hid : id < H.nx) (hσ : σ id = none) {t sz c : Nat} {es : List (List AV)} {arr : Array Value} {o : Oper} {rest : List AV} (hes : ∀ e ∈ es, e.length = sz) (hr : Rps w S σ (es.flatten ++ rest) arr.toList) (h1 : ∀ u ∈ arr, u.oneCell' = true)
    (hc : es.length ≤ c) (hcm : c ≤ maxLen) (hcs : c * sz ≤ arr.size)
    (hrun : (execOp ev o).run P w = .ok (.value (.slice (some ⟨w.heap.size, 0, none⟩) es.length c)) (w.alloc (.cells arr t))) : Eff P w S σ H ev o id (.osl id sz 0 es.length) (H.put id (.row t sz es)) :=
  row_eff1 hs ⟨rfl, rfl, rfl, rfl⟩ hid hσ hes hr h1 hc hcm hcs hrun
theorem al_sound (hev : ∀ v, ev (.const v) = v) {o : Oper} {ao : AOp} {xs : List Operand} {args : List AV} {a : AV} {o' : AO} {id : Nat} (hs : Sat P w S σ H) (hid : id < H.nx) (hσ : σ id = none) (hc : clsA P o.op = some (ao, xs)) (hp : AlR id ao args o' a) (hr : Rps w S σ args (xs.map ev)) : Eff P w S σ H ev o id a (H.put id o') := by
  cases ho : o.op <;> rw [ho] at hc <;> simp only [clsA] at hc <;> try (cases hc; done)
  case alloc t =>
    cases hz : zeroA P t with
    | none => rw [hz] at hc; cases hc
    | some z =>
      rw [hz] at hc
      simp only [Option.map_some, Option.some.injEq, Prod.mk.injEq] at hc
      obtain ⟨rfl, rfl⟩ := hc
      cases hp
      obtain ⟨v, hv, _, q1, q2⟩ := zeroA_run (P := P) (w := w) (S := S) (σ := σ) hz
      exact box_eff hs hid hσ q1 q2 (by simp [execOp, ho, Instr.alloc, hv, newVar, newRow])
  case box t x =>
    simp only [Option.some.injEq, Prod.mk.injEq] at hc
    obtain ⟨rfl, rfl⟩ := hc
    cases hp with
    | bx _ a hpart =>
      obtain ⟨v, e, h⟩ := hr.one_inv
      injection e with e; subst e
      obtain ⟨q1, q2⟩ := h.cells hpart
      exact box_eff hs hid hσ q1 q2 (by simp [execOp, ho, Instr.box, newVar, newRow])
  case buildSlice t len parts =>
    cases hu : P.underlying t with
    | none => rw [hu] at hc; cases hc
    | some d =>
      rw [hu] at hc
      cases d <;> (try simp only at hc) <;> try (cases hc; done)
      rename_i e
      cases hz : zeroA P e with
      | none => rw [hz] at hc; cases hc
      | some z =>
        cases hi : P.info? e with
        | none => rw [hz, hi] at hc; cases hc
        | some j =>
          rw [hz, hi] at hc
          simp only at hc
          split at hc
          · cases hc
          · rename_i hcond
            simp only [not_or, ne_eq, Decidable.not_not] at hcond
            obtain ⟨c1, c2, c3, c4⟩ := hcond
            simp only [Option.some.injEq, Prod.mk.injEq] at hc
            obtain ⟨rfl, rfl⟩ := hc
            cases hp with
            | bs _ _ _ _ _ _ es hall hlen hes hf =>
              subst hlen
              obtain ⟨v, hv, _, q1, q2⟩ := zeroA_run (P := P) (w := w) (S := S) (σ := σ) hz
              have hzl : v.cells.size = j.size := by rw [← c2, q1.1, Array.length_toList]
              obtain ⟨z1, z2⟩ := zeros_rep q1 q2 (by omega) es.length
              rw [hzl] at z1 z2
              have hxs : ((parts.map fun x => (x.1, ev x.2)).toList).map (·.2) = (parts.toList.map (·.2)).map ev := by simp
              obtain ⟨us, g1, g2, g3⟩ := fill_sound (place := fun i => some (i * j.size, j.size)) (parts.map fun x => (x.1, ev x.2)).toList (parts.toList.map fun x => (x.1 * j.size, j.size)) args _ es.flatten _ hall (by rw [hxs]; exact hr) (by simp) hf z1 z2
              have husz : us.size = es.length * j.size := by rw [← Array.length_toList, ← g2.1, flat_length hes]
              refine row_eff hs hid hσ (c := es.length) (rest := []) hes (by simpa using g2) g3 (Nat.le_refl _) (by omega) (by omega) ?_
              by_cases h0 : es.length = 0
              · have hes0 : es = [] := List.eq_nil_of_length_eq_zero h0
                subst hes0
                simp only [List.length_nil, Nat.zero_mul, Array.range_zero', Array.map_empty] at g1 husz ⊢
                have g2' : Instr.fill (fun i => some (i * j.size, j.size)) #[] (List.map (fun x => (x.fst, ev x.snd)) parts.toList) = some us := by simpa using g1
                simp [execOp, ho, Instr.buildSlice, run_underlying hu, sizeOf, typeInfo, hi, Array.range_zero', g2', newRow]
              · have hne : ¬ es.length * j.size = 0 := Nat.mul_ne_zero h0 c1
                have hle : ¬ (2 ^ 24 < es.length * j.size) := by omega
                have hzz : j.zero = some v := by
                  cases hzz : j.zero with
                  | none => simp [zeroValue, typeInfo, hi, hzz] at hv
                  | some v' => simp [zeroValue, typeInfo, hi, hzz] at hv; rw [hv]
                have := run_buildSlice (P := P) w t e es.length (parts.map fun x => (x.1, ev x.2)) us j v hu hi hzz (by omega) hne (by rw [hzl]; exact g1)
                simp [execOp, ho, this]
  case makeSlice t l c =>
    cases hu : P.underlying t with
    | none => rw [hu] at hc; cases hc
    | some d =>
      rw [hu] at hc
      cases d <;> (try simp only at hc) <;> try (cases hc; done)
      rename_i e
      cases hz : zeroA P e with
      | none => rw [hz] at hc; cases hc
      | some z =>
        cases hi : P.info? e with
        | none => rw [hz, hi] at hc; cases hc
        | some j =>
          rw [hz, hi] at hc
          simp only at hc
          split at hc
          · cases hc
          · rename_i hcond
            simp only [not_or, ne_eq, Decidable.not_not] at hcond
            obtain ⟨c1, c2⟩ := hcond
            simp only [Option.some.injEq, Prod.mk.injEq] at hc
            obtain ⟨rfl, rfl⟩ := hc
            cases hp with
            | ms _ _ _ _ k k' li ci l0 l1 l2 l3 =>
              obtain ⟨v1, v2, e1, q3, q4⟩ := hr.two_inv
              simp only [List.map_cons, List.map_nil, List.cons.injEq, and_true] at e1
              obtain ⟨rfl, rfl⟩ := e1
              have hx := q3.p_inv.1
              have hy := q4.p_inv.1
              obtain ⟨v, hv, _, q1, q2⟩ := zeroA_run (P := P) (w := w) (S := S) (σ := σ) hz
              have hzl : v.cells.size = j.size := by rw [← c2, q1.1, Array.length_toList]
              obtain ⟨z1, z2⟩ := zeros_rep q1 q2 (by omega) ci.toNat
              have hml : maxLen = 9223372036854775807 := by decide
              have hsplit : (List.replicate ci.toNat z).flatten = (List.replicate li.toNat z).flatten ++ (List.replicate (ci.toNat - li.toNat) z).flatten := by
                rw [← List.flatten_append, List.replicate_append_replicate]; congr 2; omega
              have := row_eff (ev := ev) (o := o) (t := e) (sz := j.size) hs hid hσ (c := ci.toNat) (es := List.replicate li.toNat z) (rest := (List.replicate (ci.toNat - li.toNat) z).flatten) (arr := (Array.range (ci.toNat * v.cells.size)).map (v.cells[· % v.cells.size]!))
                (fun x hx => by rw [List.eq_of_mem_replicate hx]; exact c2) (by rw [← hsplit]; exact z1) z2 (by simp; omega) (by omega) (by simp [hzl]) ?_
              · simpa using this
              · have hzz : j.zero = some v := by
                  cases hzz : j.zero with
                  | none => simp [zeroValue, typeInfo, hi, hzz] at hv
                  | some v' => simp [zeroValue, typeInfo, hi, hzz] at hv; rw [hv]
                have := run_make (P := P) w t e j v hu hi hzz k k' li ci l0 l1 (by rw [Int.mul_comm]; omega) (by omega)
                simp only [madeCells] at this
                simp [execOp, ho, hx, hy, this, hzl]
  case makeMap t r =>
    have fin : ∀ kt, ao = .mm kt → xs = [] → (Instr.makeMap t (r.map ev)).run P w = .ok (.map (some w.heap.size)) (w.alloc (.map #[] 0)) → Eff P w S σ H ev o id a (H.put id o') := by
      intro kt h1 h2 hrun
      subst h1
      cases hp
      exact new_eff hs ⟨rfl, rfl, rfl, rfl⟩ hid hσ (u := .map (some w.heap.size)) rfl ⟨_, fun _ => none, sput_self, MapOf.made w P kt, fun k => .inl ⟨rfl, rfl⟩⟩ (fun _ _ _ h => by cases h) (by simp [execOp, ho, hrun]) (.mp _ _ sput_self)
    revert hc
    split
    · rename_i kt ve h1
      intro hc
      simp only [Option.some.injEq, Prod.mk.injEq] at hc
      exact fin kt hc.1.symm hc.2.symm rfl
    · rename_i kt ve k n h1
      intro hc
      simp only [Option.some.injEq, Prod.mk.injEq] at hc
      refine fin kt hc.1.symm hc.2.symm ?_
      simp [hev, Instr.makeMap, run_underlying h1, asInt, asIntOf]
    · intro hc; cases hc
end
end Go.Proofs.Ytgkkilbeingleaa

/- Operations that write, on abstract memory: stores, appends, maps. Nothing of the program is named here. -/
namespace Go.Proofs.Ytgkkilbeingleaa
open Go.RowKit Go.Maps

open Classical in
noncomputable def putA (f : Value → Option AV) (u : Value) (a : AV) : Value → Option AV := fun x => if x = u then some a else f x
theorem putA_same (f : Value → Option AV) (u : Value) (a : AV) : putA f u a u = some a := by simp [putA]
theorem putA_other (f : Value → Option AV) {u x : Value} (a : AV) (h : x ≠ u) : putA f u a x = f x := by simp [putA, h]
inductive WO where
  | st (n : Nat)
  | app (t sz bytes : Nat)
  | mset (kt : TypeId)
  | apz (t sz bytes : Nat) (z : List AV)
  | clr (sz : Nat) (z : List AV)
  | aps (t sz bytes : Nat)
  | ust (t : Nat)
inductive WrR (P : Program) (id : Nat) : WO → List AV → AH → AV → AH → Prop
  | st_box (n i off : Nat) (t : TypeId) (cs : List AV) (a : AV) (H : AH) : H.get i = some (.box t cs) → a.part = true → a.cells.length = n → off + n ≤ cs.length → WrR P id (.st n) [.ptr i off, a] H .any (H.put i (.box t (cs.take off ++ a.cells ++ cs.drop (off + n))))
  | st_row (n i sz k j : Nat) (t : TypeId) (es : List (List AV)) (e : List AV) (a : AV) (H : AH) : H.get i = some (.row t sz es) → es[k]? = some e → a.part = true → a.cells.length = n → j + n ≤ sz →
      WrR P id (.st n) [.eptr i sz k j, a] H .any (H.put i (.row t sz (es.set k (e.take j ++ a.cells ++ e.drop (j + n)))))
  | app_row (t sz bytes r off n : Nat) (es ys : List (List AV)) (x : AV) (H : AH) : H.get r = some (.row t sz es) → off + n ≤ es.length → ElA H sz x ys → n + ys.length ≤ maxLen → (n + ys.length) * bytes ≤ 140737488355328 →
      WrR P id (.app t sz bytes) [.osl r sz off n, x] H (.osl id sz 0 (n + ys.length)) ((H.kill r).put id (.row t sz ((es.drop off).take n ++ ys)))
  | app_nil (t sz bytes : Nat) (ys : List (List AV)) (x : AV) (H : AH) : ElA H sz x ys → ys.length ≤ maxLen → ys.length * bytes ≤ 140737488355328 →
      WrR P id (.app t sz bytes) [.p (.slice none 0 0), x] H (.osl id sz 0 ys.length) (H.put id (.row t sz ys))
  | app_e (t sz bytes : Nat) (g : Addr) (ys : List (List AV)) (x : AV) (H : AH) : ElA H sz x ys → ys.length ≤ maxLen → ys.length * bytes ≤ 140737488355328 →
      WrR P id (.app t sz bytes) [.p (.slice (some g) 0 0), x] H (.osl id sz 0 ys.length) (H.put id (.row t sz ys))
  | mset (kt : TypeId) (i n : Nat) (f : Value → Option AV) (key a : AV) (u : Value) (H : AH) : H.get i = some (.map kt n f) → Keyed P kt → key.val = some u → (keyOf P kt u).isSome = true → n < maxLen → WrR P id (.mset kt) [.mp i, key, a] H .any (H.put i (.map kt (n + 1) (putA f u a)))
  | apz (t sz bytes : Nat) (z : List AV) (k : IntKind) (n : Int) (H : AH) : 0 ≤ n → n ≤ maxLen → n * bytes ≤ 140737488355328 →
      WrR P id (.apz t sz bytes z) [.p (.slice none 0 0), .p (.int k n)] H (.osl id sz 0 n.toNat) (H.put id (.row t sz (List.replicate n.toNat z)))
  | clr (sz r off n : Nat) (z : List AV) (t : TypeId) (es : List (List AV)) (H : AH) : H.get r = some (.row t sz es) → off + n ≤ es.length → WrR P id (.clr sz z) [.osl r sz off n] H .any (H.put r (.row t sz (es.take off ++ List.replicate n z ++ es.drop (off + n))))
  | aps_row (t sz bytes r off n : Nat) (es : List (List AV)) (q : ByteArray) (H : AH) : H.get r = some (.row t sz es) → off + n ≤ es.length → n + (strE q).length ≤ maxLen → (n + (strE q).length) * bytes ≤ 140737488355328 →
      WrR P id (.aps t sz bytes) [.osl r sz off n, .p (.string q)] H (.osl id sz 0 (n + (strE q).length)) ((H.kill r).put id (.row t sz ((es.drop off).take n ++ strE q)))
  | aps_nil (t sz bytes : Nat) (q : ByteArray) (H : AH) : (strE q).length ≤ maxLen → (strE q).length * bytes ≤ 140737488355328 →
      WrR P id (.aps t sz bytes) [.p (.slice none 0 0), .p (.string q)] H (.osl id sz 0 (strE q).length) (H.put id (.row t sz (strE q)))
  | ust_row (t r i n : Nat) (es : List (List AV)) (q : ByteArray) (H : AH) : H.get r = some (.row t 1 es) → 0 < n → i + n ≤ es.length → (es.drop i).take n = strE q → WrR P id (.ust t) [.eptr r 1 i 0, .p (.int .i64 n)] H (.p (.string q)) (H.kill r)
  | ust_nil (t : Nat) (H : AH) : WrR P id (.ust t) [.p (.pointer none), .p (.int .i64 0)] H (.p (.string .empty)) H
def clsW (P : Program) (o : Op) : Option (WO × List Operand) :=
  match o with
  | .store t x v => (P.info? t).map fun i => (.st i.size, [x, v])
  | .mapUpdate t m k v | .insert t m k v => match P.underlying t with
    | some (.map kt _) => some (.mset kt, [m, k, v])
    | _ => none
  | .call c => match c.callee, c.args.toList, c.argTypes.toList with
    | .builtin .append, [s, x], [t, t'] => match P.underlying t with
      | some (.slice e) => match zeroA P e, P.info? e with
        | some z, some j => if t ≠ t' ∨ j.size = 0 ∨ z.length ≠ j.size then (if j.size = 0 ∨ z.length ≠ j.size then none else match P.underlying t' with | some (.int _) => some (.apz e j.size j.bytes z, [s, x]) | some .string => if j.size = 1 then some (.aps e j.size j.bytes, [s, x]) else none | _ => none) else some (.app e j.size j.bytes, [s, x])
        | _, _ => none
      | _ => none
    | .builtin .clear, [s], [t] => match P.underlying t with
      | some (.slice e) => match zeroA P e, P.info? e with
        | some z, some j => if j.size = 0 ∨ z.length ≠ j.size then none else some (.clr j.size z, [s])
        | _, _ => none
      | _ => none
    | .builtin .unsafeString, [p, n], [pt, _] => match P.underlying pt with
      | some (.pointer e) => if P.cellsOf e = 1 then some (.ust e, [p, n]) else none
      | _ => none
    | _, _, _ => none
  | _ => none

section
variable {P : Program} {w : World} {S : Nat → Prop} {σ : Nat → Option Value} {ev : Operand → Value} {H : AH}
theorem splice_get {α : Type} (L vs : List α) (p q : Nat) (h : p + vs.length ≤ L.length) : (L.take p ++ vs ++ L.drop (p + vs.length))[q]? = if q < p then L[q]? else if q < p + vs.length then vs[q - p]? else L[q]? := by
  have hl : (L.take p).length = p := by rw [List.length_take]; omega
  by_cases h1 : q < p
  · rw [if_pos h1, List.append_assoc, List.getElem?_append_left (by omega), List.getElem?_take, if_pos h1]
  · rw [if_neg h1]
    by_cases h2 : q < p + vs.length
    · rw [if_pos h2, List.getElem?_append_left (by rw [List.length_append]; omega), List.getElem?_append_right (by omega), hl]
    · rw [if_neg h2, List.getElem?_append_right (by rw [List.length_append]; omega), List.length_append, hl, List.getElem?_drop]
      congr 1; omega
theorem splice_len {α : Type} (L vs : List α) (p : Nat) (h : p + vs.length ≤ L.length) : (L.take p ++ vs ++ L.drop (p + vs.length)).length = L.length := by
  simp; omega
theorem sput_id {i : Nat} {u : Value} (h : σ i = some u) : sput σ i u = σ := by
  funext k
  unfold sput
  split
  · rename_i e; rw [e, h]
  · rfl
/-- cells of a block of one's own are written -/
theorem set_eff1 (hs : Sat P w S σ H) {i : Nat} {o o' : AO} {u : Value} {g off : Nat} {t : TypeId} {arr : Array Value} {vs : List Value} {op : Oper} {nx : Next}
    (hg : H.get i = some o) (how : o.owned = true) (hσ : σ i = some u) (hu : blkOf u = some g) (hb : Blk w g t arr) {id : Nat} (hii : i < H.nx) (hnx : (∃ v, nx = .value v) ∨ nx = .skip)
    (hrun : (execOp ev op).run P w = .ok nx (w.setRow g (arr.toList.take off ++ vs ++ arr.toList.drop (off + vs.length)).toArray))
    (hobj : ∀ w', (∀ b, b ≠ g → w'.heap[b]? = w.heap[b]?) → Blk w' g t (arr.toList.take off ++ vs ++ arr.toList.drop (off + vs.length)).toArray → ObjOk P w' S σ i o') : Eff P w S σ H ev op id .any (H.put i o') := by
  have hkeep : ∀ b, b ≠ g → (w.setRow g (arr.toList.take off ++ vs ++ arr.toList.drop (off + vs.length)).toArray).heap[b]? = w.heap[b]? := fun b hb => setRow_other w g b _ hb
  have hnone : ∀ x, σ i = some x → x = u := fun x hx => by rw [hσ] at hx; injection hx with hx; exact hx.symm
  have hsp : sput σ i u = σ := sput_id hσ
  have hbk : (σ i).bind blkOf = some g := by rw [hσ]; exact hu
  have hsat := hs.upd (w' := w.setRow g (arr.toList.take off ++ vs ++ arr.toList.drop (off + vs.length)).toArray) (k := i) (o' := o') hii hnone (by simp) (fun b hb hne => hkeep b (fun e => hne (by rw [hu, e]))) (fun b hb => by
      rw [hu] at hb; injection hb with hb; subst hb
      exact ⟨hs.sep i o g hg how hbk, fun k o2 hk h2 h3 h4 => hk (hs.dj k i o2 o g h2 hg h3 how h4 hbk)⟩)
    (by rw [hsp]; exact hobj _ hkeep (setRow_heap w g arr _ t (0, 0) hb)) (fun j o b h1 h2 h3 => hs.lt h1 h2 h3) (fun A n c e => hs.sl i A n c (by rw [hσ, e]))
  have hext := Ext.upd (w' := w.setRow g (arr.toList.take off ++ vs ++ arr.toList.drop (off + vs.length)).toArray) (k := i) (o' := o') hs hnone rfl rfl rfl (by simp) (fun b hb hne => hkeep b (fun e => hne (by rw [hu, e]))) (fun b hb => by
      rw [hu] at hb; injection hb with hb; subst hb; exact .inl ⟨i, o, hg, how, hbk⟩)
  rw [hsp] at hsat hext
  exact ⟨nx, _, σ, hrun, hnx.elim (fun ⟨v, h⟩ => .inl ⟨v, h, .any _⟩) (fun h => .inr ⟨h, rfl⟩), hsat, hext, fun _ _ => rfl⟩
theorem set_eff (hs : Sat P w S σ H) {i : Nat} {o o' : AO} {u : Value} {g off : Nat} {t : TypeId} {arr : Array Value} {vs : List Value} {op : Oper} {T x : Operand} {ty : TypeId} {j : TypeInfo} {v : Value}
    (hop : op.op = .store ty T x) (hi : P.info? ty = some j) (hg : H.get i = some o) (how : o.owned = true) (hσ : σ i = some u) (hu : blkOf u = some g) (hb : Blk w g t arr)
    (hT : ev T = .pointer (some ⟨g, off, none⟩)) (hx : ev x = v) (hv : v.cells.toList = vs) (hvl : vs.length = j.size) (h1 : ∀ u ∈ vs, u.oneCell' = true) (hfit : off + vs.length ≤ arr.size) {id : Nat} (hii : i < H.nx)
    (hobj : ∀ w', (∀ b, b ≠ g → w'.heap[b]? = w.heap[b]?) → Blk w' g t (arr.toList.take off ++ vs ++ arr.toList.drop (off + vs.length)).toArray → ObjOk P w' S σ i o') : Eff P w S σ H ev op id .any (H.put i o') := by
  refine set_eff1 hs hg how hσ hu hb hii (.inr rfl) ?_ hobj
  have := run_storeCells_at (P := P) g off t vs 0 arr w hb (by omega) h1
  simp only [Nat.add_zero] at this
  have hsz : v.cells.size = j.size := by rw [← hvl, ← hv, Array.length_toList]
  simp [execOp, hop, Instr.storeAt, hT, hx, Instr.sureAddr, storeVar, sizeOf, typeInfo, hi, hsz, hv, this]
theorem wr_store {o : Oper} {t : TypeId} {x v : Operand} {j : TypeInfo} {a : AV} {args : List AV} {id : Nat} {H' : AH} (hs : Sat P w S σ H) (ho : o.op = .store t x v) (hi : P.info? t = some j) (hp : WrR P id (.st j.size) args H a H') (hr : Rps w S σ args [ev x, ev v]) :
    Eff P w S σ H ev o id a H' := by
  cases hp with
  | st_box _ i off t' cs a' _ hg hpart hlen hle =>
    obtain ⟨v1, v2, e1, q1, q2⟩ := hr.two_inv
    simp only [List.cons.injEq, and_true] at e1
    obtain ⟨rfl, rfl⟩ := e1
    obtain ⟨g, hx, hσ⟩ := q1.ptr_inv
    obtain ⟨c1, c2⟩ := q2.cells hpart
    obtain ⟨g', arr, m1, m2, m3, m4⟩ := hs.obj i _ hg
    rw [hσ] at m1
    simp only [Option.some.injEq, Value.pointer.injEq, Addr.mk.injEq, and_true] at m1
    subst m1
    have hcl : cs.length = arr.size := by rw [m3.1, Array.length_toList]
    have hvl : (ev v).cells.toList.length = j.size := by rw [← c1.1]; exact hlen
    refine set_eff hs ho hi hg rfl hσ rfl m2 hx rfl rfl hvl (fun u hu => c2 u (Array.mem_toList_iff.1 hu)) (by omega) (hs.dom _ _ hσ) (fun w' hk hb => ⟨g, _, hσ, hb, ?_, fun u hu => ?_⟩)
    · have hS : ∀ b, S b → w'.heap[b]? = w.heap[b]? := fun b hb' => hk b (fun e => hs.sep i _ b hg rfl (by rw [hσ, e]; rfl) hb')
      rw [List.toList_toArray, hvl]
      exact (((m3.take off).append c1).append (m3.drop _)).mono (fun _ h => h) hS (fun _ _ h => h)
    · rw [← Array.mem_toList_iff, List.toList_toArray] at hu
      rcases List.mem_append.1 hu with hu | hu
      · rcases List.mem_append.1 hu with hu | hu
        · exact m4 u (Array.mem_toList_iff.1 (List.mem_of_mem_take hu))
        · exact c2 u (Array.mem_toList_iff.1 hu)
      · exact m4 u (Array.mem_toList_iff.1 (List.mem_of_mem_drop hu))
  | st_row _ i sz k jj t' es e a' _ hg he hpart hlen hle =>
    obtain ⟨v1, v2, e1, q1, q2⟩ := hr.two_inv
    simp only [List.cons.injEq, and_true] at e1
    obtain ⟨rfl, rfl⟩ := e1
    obtain ⟨g, o1, n, c, hx, hσ⟩ := q1.eptr_inv
    obtain ⟨c1, c2⟩ := q2.cells hpart
    obtain ⟨A, c', m1, m2, m3, m4, m5⟩ := hs.obj i _ hg
    rw [hσ] at m1
    simp only [Option.some.injEq, Value.slice.injEq] at m1
    obtain ⟨rfl, rfl, rfl⟩ := m1
    rcases m5 with ⟨m5, _⟩ | ⟨g', o', arr, m5, k1, k2, k3, k4⟩
    · cases m5
    simp only [Option.some.injEq, Addr.mk.injEq, and_true] at m5
    obtain ⟨rfl, rfl⟩ := m5
    have hkl : k < es.length := (List.getElem?_eq_some_iff.1 he).1
    have hel : e.length = sz := m2 e (List.mem_of_getElem? he)
    have hvl : (ev v).cells.toList.length = j.size := by rw [← c1.1]; exact hlen
    have hks : (k + 1) * sz ≤ c * sz := Nat.mul_le_mul_right _ (by omega)
    rw [Nat.add_mul, Nat.one_mul] at hks
    have hfit : o1 + k * sz + jj + (ev v).cells.toList.length ≤ arr.size := by rw [hvl]; omega
    have hspl : ∀ q, (arr.toList.take (o1 + k * sz + jj) ++ (ev v).cells.toList ++ arr.toList.drop (o1 + k * sz + jj + (ev v).cells.toList.length))[q]? = _ := fun q => splice_get arr.toList (ev v).cells.toList (o1 + k * sz + jj) q (by rw [Array.length_toList]; exact hfit)
    refine set_eff hs ho hi hg rfl hσ rfl k1 hx rfl rfl hvl (fun u hu => c2 u (Array.mem_toList_iff.1 hu)) hfit (hs.dom _ _ hσ) (fun w' hk hb => ⟨_, c, by rw [hσ, List.length_set], fun x hx => ?_, by rw [List.length_set]; exact m3, m4, .inr ⟨g, o1, _, rfl, hb, ?_, fun u hu => ?_, fun i' e' j' b he' hb' => ?_⟩⟩)
    · rcases List.mem_or_eq_of_mem_set hx with hx | hx
      · exact m2 x hx
      · subst hx
        rw [← hlen, splice_len _ _ _ (by omega)]; exact hel
    · rw [List.size_toArray, splice_len _ _ _ (by rw [Array.length_toList]; exact hfit), Array.length_toList]; exact k2
    · rw [← Array.mem_toList_iff, List.toList_toArray] at hu
      rcases List.mem_append.1 hu with hu | hu
      · rcases List.mem_append.1 hu with hu | hu
        · exact k3 u (Array.mem_toList_iff.1 (List.mem_of_mem_take hu))
        · exact c2 u (Array.mem_toList_iff.1 hu)
      · exact k3 u (Array.mem_toList_iff.1 (List.mem_of_mem_drop hu))
    · have hS : ∀ b, S b → w'.heap[b]? = w.heap[b]? := fun b hb' => hk b (fun e => hs.sep i _ b hg rfl (by rw [hσ, e]; rfl) hb')
      have mono : ∀ {a : AV} {v : Value}, Rp w S σ a v → Rp w' S σ a v := fun h => h.mono (fun _ h => h) hS (fun _ _ h => h)
      rw [List.getElem?_toArray, hspl, hvl]
      by_cases hik : k = i'
      · subst hik
        rw [List.getElem?_set_self hkl] at he'
        injection he' with he'
        subst he'
        rw [← hlen, splice_get _ _ _ _ (by omega), hlen] at hb'
        by_cases d1 : j' < jj
        · rw [if_pos d1] at hb'
          obtain ⟨u, hu, hru⟩ := k4 k e j' b he hb'
          exact ⟨u, by rw [if_pos (by omega), Array.getElem?_toList]; exact hu, mono hru⟩
        · rw [if_neg d1] at hb'
          by_cases d2 : j' < jj + j.size
          · rw [if_pos d2] at hb'
            obtain ⟨u, hu, hru⟩ := c1.at_ hb'
            refine ⟨u, ?_, mono hru⟩
            rw [if_neg (by omega), if_pos (by omega), show o1 + k * sz + j' - (o1 + k * sz + jj) = j' - jj by omega]; exact hu
          · rw [if_neg d2] at hb'
            obtain ⟨u, hu, hru⟩ := k4 k e j' b he hb'
            exact ⟨u, by rw [if_neg (by omega), if_neg (by omega), Array.getElem?_toList]; exact hu, mono hru⟩
      · rw [List.getElem?_set_ne hik] at he'
        obtain ⟨u, hu, hru⟩ := k4 i' e' j' b he' hb'
        have hj' : j' < sz := by have := (List.getElem?_eq_some_iff.1 hb').1; rw [m2 e' (List.mem_of_getElem? he')] at this; exact this
        refine ⟨u, ?_, mono hru⟩
        rcases Nat.lt_or_gt_of_ne hik with hlt | hgt
        · have : (k + 1) * sz ≤ i' * sz := Nat.mul_le_mul_right _ (by omega)
          rw [Nat.add_mul, Nat.one_mul] at this
          rw [if_neg (by omega), if_neg (by omega), Array.getElem?_toList]; exact hu
        · have : (i' + 1) * sz ≤ k * sz := Nat.mul_le_mul_right _ (by omega)
          rw [Nat.add_mul, Nat.one_mul] at this
          rw [if_pos (by omega), Array.getElem?_toList]; exact hu
theorem wr_mset {o : Oper} {t kt ve : TypeId} {m k v : Operand} {a : AV} {args : List AV} {id : Nat} {H' : AH} (hs : Sat P w S σ H) (ho : o.op = .mapUpdate t m k v ∨ o.op = .insert t m k v) (hu : P.underlying t = some (.map kt ve)) (hp : WrR P id (.mset kt) args H a H')
    (hr : Rps w S σ args [ev m, ev k, ev v]) : Eff P w S σ H ev o id a H' := by
  cases hp with
  | mset _ i n f key a' u _ hg K hv hk hn =>
    obtain ⟨v1, v2, v3, e1, q1, q2, q3⟩ := hr.three_inv
    simp only [List.cons.injEq, and_true] at e1
    obtain ⟨rfl, rfl, rfl⟩ := e1
    obtain ⟨g, hx, hσ⟩ := q1.mp_inv
    have hku := AV.val_sound hv q2
    obtain ⟨g', f', m1, m2, m3⟩ := hs.obj i _ hg
    rw [hσ] at m1
    simp only [Option.some.injEq, Value.map.injEq] at m1
    subst m1
    obtain ⟨w', hrun0, hmap, hgr⟩ := m2.store K hu hn hk (ev v)
    have hrun : (execOp ev o).run P w = .ok .skip w' := by
      rcases ho with ho | ho <;> simp [execOp, ho, hx, hku, hrun0]
    have hnone : ∀ x, σ i = some x → x = .map (some g) := fun x hx => by rw [hσ] at hx; injection hx with hx; exact hx.symm
    have hsp : sput σ i (.map (some g)) = σ := sput_id hσ
    have hbk : (σ i).bind blkOf = some g := by rw [hσ]; rfl
    have hkeep : ∀ b, b < w.heap.size → blkOf (.map (some g)) ≠ some b → w'.heap[b]? = w.heap[b]? := fun b hb hne => hgr.block b hb (fun e => hne (by rw [e]; rfl))
    have hS : ∀ b, S b → w'.heap[b]? = w.heap[b]? := fun b hb => hkeep b (hs.sb b hb) (fun e => hs.sep i _ b hg rfl (by rw [hσ]; exact e) hb)
    have hsat := hs.upd (w' := w') (k := i) (o' := .map kt (n + 1) (putA f u a')) (hs.dom _ _ hσ) hnone hgr.size hkeep (fun b hb => by
        simp only [blkOf, Option.some.injEq] at hb; subst hb
        exact ⟨hs.sep i _ g hg rfl hbk, fun k o2 hk h2 h3 h4 => hk (hs.dj k i o2 _ g h2 hg h3 rfl h4 hbk)⟩)
      (by
        rw [hsp]
        refine ⟨g, _, hσ, hmap, fun x => ?_⟩
        by_cases hxu : x = u
        · subst hxu; exact .inr ⟨a', ev v, putA_same _ _ _, putO_same _ _ _, q3.mono (fun _ h => h) hS (fun _ _ h => h)⟩
        · rw [putA_other _ _ hxu, putO_other _ _ hxu]
          rcases m3 x with h | ⟨b, y, h1, h2, h3⟩
          · exact .inl h
          · exact .inr ⟨b, y, h1, h2, h3.mono (fun _ h => h) hS (fun _ _ h => h)⟩)
      (fun j o b h1 h2 h3 => hs.lt h1 h2 h3) (fun A n c e => by cases e)
    have hext := Ext.upd (w' := w') (k := i) (o' := .map kt (n + 1) (putA f u a')) hs hnone hgr.os hgr.tape hgr.output hgr.size hkeep (fun b hb => by
        simp only [blkOf, Option.some.injEq] at hb; subst hb; exact .inl ⟨i, _, hg, rfl, hbk⟩)
    rw [hsp] at hsat hext
    exact ⟨_, _, σ, hrun, .inr ⟨rfl, rfl⟩, hsat, hext, fun _ _ => rfl⟩
end
end Go.Proofs.Ytgkkilbeingleaa

/- Appends, on abstract memory. Nothing of the program is named here. -/
namespace Go.Proofs.Ytgkkilbeingleaa
open Go.RowKit Go.Maps

section
variable {P : Program} {w : World} {S : Nat → Prop} {σ : Nat → Option Value} {ev : Operand → Value} {H : AH}
/-- read as the model reads them -/
theorem elts_read {sz n : Nat} {A : Option Addr} {ys : List (List AV)} (h : Elts w S σ sz A ys) (hn : ys.length = n) : ∃ us : List Value, us.length = n * sz ∧ Rps w S σ ys.flatten us ∧ (∀ u ∈ us, u.oneCell' = true) ∧
    ∀ (w1 : World) (c : Nat), w1.heap = w.heap → (Builtin.firstCells sz n (.slice A n c)).run P w1 = .ok us.toArray w1 := by
  obtain ⟨_, us, h1, h2, h3, h4⟩ := h
  rw [hn] at h1
  refine ⟨us, h1, h2, h3, fun w1 c hw => ?_⟩
  cases A with
  | none =>
    have : us = [] := by
      cases us with
      | nil => rfl
      | cons u r => obtain ⟨_, _, e, _⟩ := h4 0 u rfl; cases e
    subst this
    simp [Builtin.firstCells]
  | some b =>
    refine run_firstCells_some w1 sz n b n c us h1 (fun j v hv => ?_)
    obtain ⟨g, o, e, hc⟩ := h4 j v hv
    injection e with e
    subst e
    rw [addr_add]
    exact (World.cell?_of_block (by rw [hw])).trans hc
theorem app_grow {t ty e : TypeId} {i : TypeInfo} {z : Value} (ht : P.underlying t = some (.slice e)) (hi : P.info? e = some i) (hz : i.zero = some z) {B A : Option Addr} {n cc m c : Nat} {olds news : List Value}
    (hfo : (Builtin.firstCells i.size n (.slice B n cc)).run P w.drew = .ok olds.toArray w.drew) (hfn : (Builtin.firstCells i.size m (.slice A m c)).run P w.drew = .ok news.toArray w.drew)
    (hg : cc < n + m) (h63 : n + m ≤ maxLen) (hby : (n + m) * i.bytes ≤ 140737488355328) :
    (Builtin.append_ #[t, t] ty #[.slice B n cc, .slice A m c]).run P w = .ok (.slice (some ⟨w.heap.size, 0, none⟩) (n + m) (grownCap w (n + m) cc e)) (w.drew.alloc (.cells (olds.toArray ++ news.toArray ++ Builtin.zeroCells z.cells (grownCap w (n + m) cc e - (n + m))) e)) := by
  have hfit := growslice_fits hg hby
  have hml : maxLen = 9223372036854775807 := by decide
  have h1 : ¬ (n + m ≤ cc) := by omega
  have h2 : ¬ (9223372036854775807 < ((n : Int) + (m : Int))) := by omega
  have h3 : ¬ (281474976710656 < Builtin.nextslicecap (n + m) cc * i.bytes) := by omega
  simp [Builtin.append_, run_underlying ht, sizeOf, typeInfo, zeroValue, hi, hz, Builtin.lenOf, h1, h2, h3, Question.forced, hfo, hfn, newRow, grownCap]
  congr 2
  apply Array.ext'
  simp [List.append_assoc]
theorem app_room {t ty e : TypeId} {i : TypeInfo} (ht : P.underlying t = some (.slice e)) (hi : P.info? e = some i) {g o : Nat} {A : Option Addr} {n cc m c : Nat} {cur : Array Value} {news : List Value} (hb : Blk w g e cur) (hnl : news.length = m * i.size) (h1 : ∀ u ∈ news, u.oneCell' = true)
    (hfn : (Builtin.firstCells i.size m (.slice A m c)).run P w = .ok news.toArray w) (hroom : n + m ≤ cc) (hfit : o + n * i.size + news.length ≤ cur.size) :
    (Builtin.append_ #[t, t] ty #[.slice (some ⟨g, o, none⟩) n cc, .slice A m c]).run P w = .ok (.slice (some ⟨g, o, none⟩) (n + m) cc) (w.setRow g (cur.toList.take (o + n * i.size) ++ news ++ cur.toList.drop (o + n * i.size + news.length)).toArray) := by
  have hst := run_storeCells_at (P := P) g (o + n * i.size) e news 0 cur w hb (by omega) h1
  simp only [Nat.add_zero] at hst
  simp [Builtin.append_, run_underlying ht, sizeOf, typeInfo, hi, Builtin.lenOf, hroom, hfn, addr_add, hst]
theorem zeroA_info {e : TypeId} {z : List AV} {j : TypeInfo} (h : zeroA P e = some z) (hi : P.info? e = some j) : ∃ v, j.zero = some v ∧ v.cells.size = z.length ∧ ∀ u ∈ v.cells, u.oneCell' = true := by
  unfold zeroA at h
  rw [hi] at h
  simp only at h
  cases hz : j.zero with
  | none => rw [hz] at h; cases h
  | some v =>
    rw [hz] at h
    simp only at h
    split at h
    · rename_i hall
      rw [Array.all_eq_true'] at hall
      injection h with h
      exact ⟨v, rfl, by rw [← h]; simp, hall⟩
    · cases h
theorem zc_one {zs : Array Value} (h : ∀ u ∈ zs, u.oneCell' = true) (hz : 0 < zs.size) (n : Nat) : ∀ u ∈ Builtin.zeroCells zs n, u.oneCell' = true := by
  intro u hu
  unfold Builtin.zeroCells at hu
  rw [Array.mem_map] at hu
  obtain ⟨i, _, rfl⟩ := hu
  have hm : i % zs.size < zs.size := Nat.mod_lt _ hz
  rw [getElem!_pos zs _ hm]
  exact h _ (Array.getElem_mem hm)
theorem anys (vs : List Value) : Rps w S σ (List.replicate vs.length .any) vs := by
  refine ⟨List.length_replicate, fun i a v ha _ => ?_⟩
  rw [List.getElem?_replicate] at ha
  split at ha
  · injection ha with ha; subst ha; exact .any v
  · cases ha
/-- a longer row, elsewhere -/
theorem grow_eff (hs : Sat P w S σ H) {o : Oper} {c : Call} {s x : Operand} {t e : TypeId} {z : List AV} {j : TypeInfo} (ho : o.op = .call c) (hcb : c.callee = .builtin .append) (hca : c.args.toList = [s, x]) (hct : c.argTypes.toList = [t, t])
    (hu : P.underlying t = some (.slice e)) (hz : zeroA P e = some z) (hi : P.info? e = some j) (hzl : z.length = j.size) (hjs : j.size ≠ 0) {id : Nat} (hid : id < H.nx) (hσ : σ id = none) {n m cc c2 : Nat} {B A : Option Addr} {olds news : List Value} {es ys : List (List AV)}
    (hes : ∀ e ∈ es, e.length = j.size) (hys : ∀ e ∈ ys, e.length = j.size) (hen : es.length = n) (hym : ys.length = m) (hro : Rps w S σ es.flatten olds) (hrn : Rps w S σ ys.flatten news) (ho1 : ∀ u ∈ olds, u.oneCell' = true) (hn1 : ∀ u ∈ news, u.oneCell' = true)
    (hx : ev s = .slice B n cc) (hy : ev x = .slice A m c2)
    (hfo : (Builtin.firstCells j.size n (.slice B n cc)).run P w.drew = .ok olds.toArray w.drew) (hfn : (Builtin.firstCells j.size m (.slice A m c2)).run P w.drew = .ok news.toArray w.drew)
    (hg : cc < n + m) (h63 : n + m ≤ maxLen) (hby : (n + m) * j.bytes ≤ 140737488355328) : Eff P w S σ H ev o id (.osl id j.size 0 (n + m)) (H.put id (.row e j.size (es ++ ys))) := by
  obtain ⟨zv, hzv, hzs, hz1⟩ := zeroA_info hz hi
  have hca' : c.args = #[s, x] := Array.toList_inj.1 hca
  have hct' : c.argTypes = #[t, t] := Array.toList_inj.1 hct
  have hrun := app_grow (P := P) (w := w) (ty := o.type) hu hi hzv hfo hfn hg h63 hby
  have hge := grownCap_ge w (n + m) cc e
  have hcm : grownCap w (n + m) cc e ≤ maxLen := grownCap_le_maxLen w (n + m) cc e h63
  have hl : (es ++ ys).length = n + m := by rw [List.length_append, hen, hym]
  have hel : ∀ e ∈ es ++ ys, e.length = j.size := fun e he => (List.mem_append.1 he).elim (hes e) (hys e)
  have hol : olds.length = n * j.size := by rw [← hro.1, flat_length hes, hen]
  have hnl : news.length = m * j.size := by rw [← hrn.1, flat_length hys, hym]
  have hzr : ∃ rest, Rps w S σ rest (Builtin.zeroCells zv.cells (grownCap w (n + m) cc e - (n + m))).toList := ⟨_, anys _⟩
  obtain ⟨rest, hrest⟩ := hzr
  have := row_eff1 (ev := ev) (o := o) hs (w1 := w.drew) ⟨rfl, rfl, rfl, rfl⟩ hid hσ (t := e) (sz := j.size) (c := grownCap w (n + m) cc e) (es := es ++ ys) (rest := rest)
    (arr := olds.toArray ++ news.toArray ++ Builtin.zeroCells zv.cells (grownCap w (n + m) cc e - (n + m))) hel
    (by rw [List.flatten_append]; simp only [Array.toList_append]; exact (hro.append hrn).append hrest) (fun u hu => by
      simp only [Array.mem_append, List.mem_toArray] at hu
      rcases hu with (hu | hu) | hu
      · exact ho1 u hu
      · exact hn1 u hu
      · exact zc_one hz1 (by omega) _ u hu) (by rw [hl]; exact hge) hcm (by
      simp only [Array.size_append, List.size_toArray, size_zeroCells, hzs, hzl, hol, hnl, ← Nat.add_mul]
      exact Nat.mul_le_mul_right _ (by omega)) (by
      rw [hl]
      simp [execOp, ho, resolve, hcb, hca', hct', invoke, builtin, hx, hy, hrun])
  rwa [hl] at this
theorem Ext.lessR {w' : World} {S' : Nat → Prop} {σ' : Nat → Option Value} {H1 H2 : AH} (h : Ext w S σ H w' S' σ' H1) (hg : ∀ b, Foot σ' H2 b → Foot σ' H1 b) : Ext w S σ H w' S' σ' H2 :=
  ⟨h.os, h.tape, h.output, h.size, h.keep, h.sup, h.sub, fun b hb => h.foot b (hg b hb), h.sig⟩
theorem Eff.less {H0 : AH} (hg : ∀ b, Foot σ H0 b → Foot σ H b) {o : Oper} {id : Nat} {a : AV} {H' : AH} (h : Eff P w S σ H0 ev o id a H') : Eff P w S σ H ev o id a H' := by
  obtain ⟨nx, w', σ', h1, h2, h3, h4, h5⟩ := h
  refine ⟨nx, w', σ', h1, h2, h3, ⟨h4.os, h4.tape, h4.output, h4.size, fun b hb hn => h4.keep b hb (fun hf => hn (hg b hf)), h4.sup, fun b hb => ?_, fun b hb => ?_, h4.sig⟩, h5⟩
  · rcases h4.sub b hb with h | h | h
    · exact .inl h
    · exact .inr (.inl (hg b h))
    · exact .inr (.inr h)
  · rcases h4.foot b hb with h | h
    · exact .inl (hg b h)
    · exact .inr h
/-- nothing is done, an empty row is had -/
theorem none_eff (hs : Sat P w S σ H) {id : Nat} (hid : id < H.nx) (hσ : σ id = none) {o : Oper} {t sz : Nat} {B : Option Addr} (hrun : (execOp ev o).run P w = .ok (.value (.slice B 0 0)) w) : Eff P w S σ H ev o id (.osl id sz 0 0) (H.put id (.row t sz [])) := by
  have hnone : ∀ x, σ id = some x → x = .slice none 0 0 := fun x hx => by rw [hσ] at hx; cases hx
  refine ⟨_, w, sput σ id (.slice none 0 0), hrun, .inl ⟨_, rfl, .osl _ _ _ _ none B 0 0 0 sput_self (Nat.le_refl _) rfl (fun h => absurd h (by omega))⟩, hs.upd hid hnone (Nat.le_refl _) (fun _ _ _ => rfl) (fun b hb => by cases hb)
    ⟨none, 0, sput_self, by simp, Nat.le_refl _, Nat.zero_le _, .inl ⟨rfl, rfl⟩⟩ (fun j o b h1 h2 h3 => hs.lt h1 h2 h3) (fun A n c e => by injection e with e1 e2 e3; subst e1; subst e2; subst e3; exact ⟨Nat.le_refl _, fun h => absurd h (by omega), Nat.zero_le _⟩),
    Ext.upd hs hnone rfl rfl rfl (Nat.le_refl _) (fun _ _ _ => rfl) (fun b hb => by cases hb), fun j hj => sput_ne hj⟩
theorem wr_app {o : Oper} {c : Call} {s x : Operand} {t e : TypeId} {z : List AV} {j : TypeInfo} {a : AV} {args : List AV} {id : Nat} {H' : AH} (hs : Sat P w S σ H) (hid : id < H.nx) (hσ : σ id = none) (ho : o.op = .call c) (hcb : c.callee = .builtin .append) (hca : c.args.toList = [s, x]) (hct : c.argTypes.toList = [t, t])
    (hu : P.underlying t = some (.slice e)) (hz : zeroA P e = some z) (hi : P.info? e = some j) (hzl : z.length = j.size) (hjs : j.size ≠ 0) (hp : WrR P id (.app e j.size j.bytes) args H a H') (hr : Rps w S σ args [ev s, ev x]) : Eff P w S σ H ev o id a H' := by
  have hca' : c.args = #[s, x] := Array.toList_inj.1 hca
  have hct' : c.argTypes = #[t, t] := Array.toList_inj.1 hct
  have exec : ∀ {v1 v2 r : Value} {w' : World}, ev s = v1 → ev x = v2 → (Builtin.append_ #[t, t] o.type #[v1, v2]).run P w = .ok r w' → (execOp ev o).run P w = .ok (.value r) w' := by
    intro v1 v2 r w' h1 h2 h3
    simp [execOp, ho, resolve, hcb, hca', hct', invoke, builtin, h1, h2, h3]
  -- what is appended
  have src : ∀ {xa : AV} {ys : List (List AV)}, ElA H j.size xa ys → Rp w S σ xa (ev x) → ∃ A c2, ev x = .slice A ys.length c2 ∧ Elts w S σ j.size A ys := by
    intro xa ys he hrx
    obtain ⟨A, c2, h⟩ := el_sound hs he hrx
    rcases h with ⟨h1, h2, _⟩ | ⟨rfl, h1, rfl⟩
    · exact ⟨A, c2, h1, h2⟩
    · exact ⟨none, c2, h1, by simp, [], by simp, .nil, by simp, by simp⟩
  cases hp with
  | app_nil _ _ _ ys xa _ hel h63 hby =>
    obtain ⟨v1, v2, e1, q1, q2⟩ := hr.two_inv
    simp only [List.cons.injEq, and_true] at e1
    obtain ⟨rfl, rfl⟩ := e1
    have hx := q1.p_inv.1
    obtain ⟨A, c2, hy, hE⟩ := src hel q2
    obtain ⟨news, n1, n2, n3, n4⟩ := elts_read (P := P) hE rfl
    by_cases h0 : ys.length = 0
    · have : ys = [] := List.eq_nil_of_length_eq_zero h0
      subst this
      have n4' := n4 w c2 rfl
      simp only [List.length_nil] at n4' hy ⊢
      refine none_eff hs hid hσ (B := none) (exec hx hy ?_)
      simp [Builtin.append_, run_underlying hu, sizeOf, typeInfo, hi, Builtin.lenOf, n4']
    · have := grow_eff (ev := ev) (o := o) hs ho hcb hca hct hu hz hi hzl hjs hid hσ (n := 0) (m := ys.length) (cc := 0) (B := none) (es := []) (ys := ys) (olds := []) (news := news) (by simp) hE.1 rfl rfl .nil n2 (by simp) n3 hx hy
        (by simp [Builtin.firstCells]) (n4 w.drew c2 rfl) (by omega) (by omega) (by rw [Nat.zero_add]; exact hby)
      simpa using this
  | app_e _ _ _ ga ys xa _ hel h63 hby =>
    obtain ⟨v1, v2, e1, q1, q2⟩ := hr.two_inv
    simp only [List.cons.injEq, and_true] at e1
    obtain ⟨rfl, rfl⟩ := e1
    have hx := q1.p_inv.1
    obtain ⟨A, c2, hy, hE⟩ := src hel q2
    obtain ⟨news, n1, n2, n3, n4⟩ := elts_read (P := P) hE rfl
    by_cases h0 : ys.length = 0
    · have : ys = [] := List.eq_nil_of_length_eq_zero h0
      subst this
      have n4' := n4 w c2 rfl
      simp only [List.length_nil] at n4' hy ⊢
      have hne : news = [] := List.eq_nil_of_length_eq_zero (by simpa using n1)
      subst hne
      refine none_eff hs hid hσ (B := some ga) (exec hx hy ?_)
      simp [Builtin.append_, run_underlying hu, sizeOf, typeInfo, hi, Builtin.lenOf, n4', storeCells]
    · have := grow_eff (ev := ev) (o := o) hs ho hcb hca hct hu hz hi hzl hjs hid hσ (n := 0) (m := ys.length) (cc := 0) (B := some ga) (es := []) (ys := ys) (olds := []) (news := news) (by simp) hE.1 rfl rfl .nil n2 (by simp) n3 hx hy
        (by simp [Builtin.firstCells, loadCells, loadCellsFrom]) (n4 w.drew c2 rfl) (by omega) (by omega) (by rw [Nat.zero_add]; exact hby)
      simpa using this
  | app_row _ _ _ r off n es ys xa _ hg hle hel h63 hby =>
    obtain ⟨v1, v2, e1, q1, q2⟩ := hr.two_inv
    simp only [List.cons.injEq, and_true] at e1
    obtain ⟨rfl, rfl⟩ := e1
    obtain ⟨Ar, B, N, cr, cc, hx, hσr, k1, k2, k3⟩ := q1.osl_inv
    obtain ⟨A, c2, hy, hE⟩ := src hel q2
    obtain ⟨news, n1, n2, n3, n4⟩ := elts_read (P := P) hE rfl
    obtain ⟨Ab, cb, hb1⟩ := el_sound hs (.row r off n e es hg hle) q1
    have hbase : Elts w S σ j.size B ((es.drop off).take n) := by
      rcases hb1 with ⟨hb1, hb2, _⟩ | ⟨hb0, hb1, rfl⟩
      · rw [hx] at hb1; injection hb1 with hb1 _ _; subst hb1; exact hb2
      · rw [hb0]; exact ⟨by simp, [], by simp, .nil, by simp, by simp⟩
    obtain ⟨olds, o1, o2, o3, o4⟩ := elts_read (P := P) hbase (sub_len hle)
    have hsub : Sat P w S σ (H.kill r) := hs.kill hg
    by_cases hroom : n + ys.length ≤ cc
    · by_cases hcc : cc = 0
      · have hn0 : n = 0 := by omega
        have hy0 : ys = [] := List.eq_nil_of_length_eq_zero (by omega)
        subst hn0; subst hy0; subst hcc
        simp only [List.take_zero, List.nil_append, List.length_nil, Nat.add_zero]
        refine Eff.less (fun b h => Foot.kill h) (none_eff hsub hid hσ (B := B) (exec hx hy ?_))
        have n4' := n4 w c2 rfl
        have hn : news = [] := List.eq_nil_of_length_eq_zero (by simpa using n1)
        subst hn
        simp only [List.length_nil] at n4'
        cases B <;> simp [Builtin.append_, run_underlying hu, sizeOf, typeInfo, hi, Builtin.lenOf, n4', storeCells]
      · obtain ⟨A', c', m1, m2, m3, m4, m5⟩ := hs.obj r _ hg
        rw [hσr] at m1
        simp only [Option.some.injEq, Value.slice.injEq] at m1
        obtain ⟨rfl, rfl, rfl⟩ := m1
        rcases m5 with ⟨_, m5⟩ | ⟨g, o', arr, rfl, p1, p2, p3, p4⟩
        · omega
        have hB : B = some ⟨g, o' + off * j.size, none⟩ := by rw [k3 (by omega), Option.map_some, addr_add]
        subst hB
        have hfit : o' + off * j.size + n * j.size + news.length ≤ arr.size := by
          rw [n1]
          have : (off + (n + ys.length)) * j.size ≤ cr * j.size := Nat.mul_le_mul_right _ (by omega)
          rw [Nat.add_mul, Nat.add_mul] at this
          omega
        have hrun := app_room (P := P) (w := w) (ty := o.type) hu hi p1 n1 n3 (n4 w c2 rfl) hroom hfit
        have hspl : ∀ q, (arr.toList.take (o' + off * j.size + n * j.size) ++ news ++ arr.toList.drop (o' + off * j.size + n * j.size + news.length))[q]? = _ := fun q => splice_get arr.toList news (o' + off * j.size + n * j.size) q (by rw [Array.length_toList]; exact hfit)
        have hnone : ∀ y, σ id = some y → y = .slice (some ⟨g, o' + off * j.size, none⟩) (n + ys.length) cc := fun y hy => by rw [hσ] at hy; cases hy
        have hbk : (σ r).bind blkOf = some g := by rw [hσr]; rfl
        have hkeep : ∀ b, b ≠ g → (w.setRow g (arr.toList.take (o' + off * j.size + n * j.size) ++ news ++ arr.toList.drop (o' + off * j.size + n * j.size + news.length)).toArray).heap[b]? = w.heap[b]? := fun b hb => setRow_other w g b _ hb
        have hS : ∀ b, S b → (w.setRow g (arr.toList.take (o' + off * j.size + n * j.size) ++ news ++ arr.toList.drop (o' + off * j.size + n * j.size + news.length)).toArray).heap[b]? = w.heap[b]? := fun b hb => hkeep b (fun e => hs.sep r _ b hg rfl (by rw [hbk, e]) hb)
        have hlen : ((es.drop off).take n ++ ys).length = n + ys.length := by rw [List.length_append, sub_len hle]
        have mono : ∀ {a : AV} {v : Value}, Rp w S σ a v → Rp (w.setRow g (arr.toList.take (o' + off * j.size + n * j.size) ++ news ++ arr.toList.drop (o' + off * j.size + n * j.size + news.length)).toArray) S (sput σ id (.slice (some ⟨g, o' + off * j.size, none⟩) (n + ys.length) cc)) a v := fun h => h.mono (fun _ h => h) hS (sput_ext hnone)
        refine ⟨_, _, sput σ id (.slice (some ⟨g, o' + off * j.size, none⟩) (n + ys.length) cc), exec hx hy hrun, .inl ⟨_, rfl, .osl _ _ _ _ _ _ _ cc cc sput_self hroom (by omega) (fun _ => by simp [addr_add])⟩,
          hsub.upd hid hnone (by simp) (fun b hb hne => hkeep b (fun e => hne (by rw [e]; rfl))) (fun b hb => ?_) ?_ (fun j o b h1 h2 h3 => hsub.lt h1 h2 h3) (fun A n c e => ?_),
          Ext.lessR (H1 := H.put id (.row e j.size ((es.drop off).take n ++ ys))) (Ext.upd hs hnone rfl rfl rfl (by simp) (fun b hb hne => hkeep b (fun e => hne (by rw [e]; rfl))) (fun b hb => ?_)) (fun b hb => ?_), fun k hk => sput_ne hk⟩
        · simp only [blkOf, Option.some.injEq] at hb; subst hb
          refine ⟨hs.sep r _ g hg rfl hbk, fun k o2 hk h2 h3 h4 => ?_⟩
          obtain ⟨h2', hne⟩ := AH.kill_get h2 h3
          exact hne (hs.dj k r o2 _ g h2' hg h3 rfl h4 hbk)
        · refine ⟨_, cc, by rw [hlen]; exact sput_self, fun y hy => ?_, by rw [hlen]; exact hroom, by omega, .inr ⟨g, _, _, rfl, setRow_heap w g arr _ e (0, 0) p1, ?_, fun u hu => ?_, fun i e' jj b he hb' => ?_⟩⟩
          · exact (List.mem_append.1 hy).elim (fun h => m2 y (sub_mem h)) (hE.1 y)
          · rw [List.size_toArray, splice_len _ _ _ (by rw [Array.length_toList]; exact hfit), Array.length_toList]
            have : (off + cc) * j.size = cr * j.size := by rw [k2]
            rw [Nat.add_mul] at this
            omega
          · rw [← Array.mem_toList_iff, List.toList_toArray] at hu
            rcases List.mem_append.1 hu with hu | hu
            · rcases List.mem_append.1 hu with hu | hu
              · exact p3 u (Array.mem_toList_iff.1 (List.mem_of_mem_take hu))
              · exact n3 u hu
            · exact p3 u (Array.mem_toList_iff.1 (List.mem_of_mem_drop hu))
          · rw [List.getElem?_toArray, hspl]
            by_cases hin : i < n
            · rw [List.getElem?_append_left (by rw [sub_len hle]; exact hin)] at he
              obtain ⟨_, he'⟩ := sub_at he
              have hjl : jj < j.size := by have := (List.getElem?_eq_some_iff.1 hb').1; rw [m2 e' (List.mem_of_getElem? he')] at this; exact this
              obtain ⟨u, hu, hru⟩ := p4 (off + i) e' jj b he' hb'
              have : (i + 1) * j.size ≤ n * j.size := Nat.mul_le_mul_right _ (by omega)
              rw [Nat.add_mul, Nat.one_mul] at this
              refine ⟨u, ?_, mono hru⟩
              rw [if_pos (by omega), Array.getElem?_toList, show o' + off * j.size + i * j.size + jj = o' + (off + i) * j.size + jj by rw [Nat.add_mul]; omega]; exact hu
            · rw [List.getElem?_append_right (by rw [sub_len hle]; omega), sub_len hle] at he
              have hjl : jj < j.size := by have := (List.getElem?_eq_some_iff.1 hb').1; rw [hE.1 e' (List.mem_of_getElem? he)] at this; exact this
              have hfl := flat_elem hE.1 (i - n) e' jj b he hb'
              obtain ⟨u, hu, hru⟩ := n2.at_ hfl
              have hil : i - n < ys.length := (List.getElem?_eq_some_iff.1 he).1
              have h7 : (i - n + 1) * j.size ≤ ys.length * j.size := Nat.mul_le_mul_right _ (by omega)
              have h8 : (n + (i - n)) * j.size = i * j.size := by congr 1; omega
              rw [Nat.add_mul] at h7 h8
              refine ⟨u, ?_, mono hru⟩
              rw [if_neg (by omega), if_pos (by rw [n1]; omega), show o' + off * j.size + i * j.size + jj - (o' + off * j.size + n * j.size) = (i - n) * j.size + jj by omega]; exact hu
        · injection e with e1 e2 e3
          subst e1; subst e2; subst e3
          exact ⟨hroom, fun _ => ⟨_, _, rfl⟩, by omega⟩
        · simp only [blkOf, Option.some.injEq] at hb; subst hb; exact .inl ⟨r, _, hg, rfl, hbk⟩
        · obtain ⟨k, o, h1, h2, h3⟩ := hb
          by_cases hk : k = id
          · subst hk; rw [AH.get_put_self] at h1; exact ⟨k, o, by rw [AH.get_put_self]; exact h1, h2, h3⟩
          · rw [AH.get_put_ne hk] at h1; exact ⟨k, o, by rw [AH.get_put_ne hk]; exact (AH.kill_get h1 h2).1, h2, h3⟩
    · refine Eff.less (H0 := H.kill r) (fun b h => Foot.kill h) ?_
      exact grow_eff (ev := ev) (o := o) hsub ho hcb hca hct hu hz hi hzl hjs hid hσ (fun y hy => hbase.1 y hy) hE.1 (sub_len hle) rfl o2 n2 o3 n3 hx hy (o4 w.drew cc rfl) (n4 w.drew c2 rfl) (by omega) h63 hby
theorem app_growS {t t' ty e : TypeId} {i : TypeInfo} {z : Value} (ht : P.underlying t = some (.slice e)) (ht' : P.underlying t' = some .string) (hi : P.info? e = some i) (hz : i.zero = some z) {B : Option Addr} {n cc : Nat} {q : ByteArray} {olds news : List Value}
    (hfo : (Builtin.firstCells i.size n (.slice B n cc)).run P w.drew = .ok olds.toArray w.drew) (hfn : (Builtin.firstCells i.size q.size (.string q)).run P w.drew = .ok news.toArray w.drew)
    (hg : cc < n + q.size) (h63 : n + q.size ≤ maxLen) (hby : (n + q.size) * i.bytes ≤ 140737488355328) :
    (Builtin.append_ #[t, t'] ty #[.slice B n cc, .string q]).run P w = .ok (.slice (some ⟨w.heap.size, 0, none⟩) (n + q.size) (grownCap w (n + q.size) cc e)) (w.drew.alloc (.cells (olds.toArray ++ news.toArray ++ Builtin.zeroCells z.cells (grownCap w (n + q.size) cc e - (n + q.size))) e)) := by
  have hfit := growslice_fits hg hby
  have hml : maxLen = 9223372036854775807 := by decide
  have h1 : ¬ (n + q.size ≤ cc) := by omega
  have h2 : ¬ (9223372036854775807 < ((n : Int) + (q.size : Int))) := by omega
  have h3 : ¬ (281474976710656 < Builtin.nextslicecap (n + q.size) cc * i.bytes) := by omega
  simp [Builtin.append_, run_underlying ht, run_underlying ht', sizeOf, typeInfo, zeroValue, hi, hz, Builtin.lenOf, h1, h2, h3, Question.forced, hfo, hfn, newRow, grownCap]
  congr 2
  apply Array.ext'
  simp [List.append_assoc]
theorem app_roomS {t t' ty e : TypeId} {i : TypeInfo} (ht : P.underlying t = some (.slice e)) (ht' : P.underlying t' = some .string) (hi : P.info? e = some i) {g o : Nat} {n cc : Nat} {q : ByteArray} {cur : Array Value} {news : List Value} (hb : Blk w g e cur) (hnl : news.length = q.size * i.size) (h1 : ∀ u ∈ news, u.oneCell' = true)
    (hfn : (Builtin.firstCells i.size q.size (.string q)).run P w = .ok news.toArray w) (hroom : n + q.size ≤ cc) (hfit : o + n * i.size + news.length ≤ cur.size) :
    (Builtin.append_ #[t, t'] ty #[.slice (some ⟨g, o, none⟩) n cc, .string q]).run P w = .ok (.slice (some ⟨g, o, none⟩) (n + q.size) cc) (w.setRow g (cur.toList.take (o + n * i.size) ++ news ++ cur.toList.drop (o + n * i.size + news.length)).toArray) := by
  have hst := run_storeCells_at (P := P) g (o + n * i.size) e news 0 cur w hb (by omega) h1
  simp only [Nat.add_zero] at hst
  simp [Builtin.append_, run_underlying ht, run_underlying ht', sizeOf, typeInfo, hi, Builtin.lenOf, hroom, hfn, addr_add, hst]
theorem grow_effS (hs : Sat P w S σ H) {o : Oper} {c : Call} {s x : Operand} {t t' e : TypeId} {z : List AV} {j : TypeInfo} (ho : o.op = .call c) (hcb : c.callee = .builtin .append) (hca : c.args.toList = [s, x]) (hct : c.argTypes.toList = [t, t'])
    (hu : P.underlying t = some (.slice e)) (hu' : P.underlying t' = some .string) (hz : zeroA P e = some z) (hi : P.info? e = some j) (hzl : z.length = j.size) (hjs : j.size ≠ 0) {id : Nat} (hid : id < H.nx) (hσ : σ id = none) {n cc : Nat} {q : ByteArray} {B : Option Addr} {olds news : List Value} {es ys : List (List AV)}
    (hes : ∀ e ∈ es, e.length = j.size) (hys : ∀ e ∈ ys, e.length = j.size) (hen : es.length = n) (hym : ys.length = q.size) (hro : Rps w S σ es.flatten olds) (hrn : Rps w S σ ys.flatten news) (ho1 : ∀ u ∈ olds, u.oneCell' = true) (hn1 : ∀ u ∈ news, u.oneCell' = true)
    (hx : ev s = .slice B n cc) (hy : ev x = .string q)
    (hfo : (Builtin.firstCells j.size n (.slice B n cc)).run P w.drew = .ok olds.toArray w.drew) (hfn : (Builtin.firstCells j.size q.size (.string q)).run P w.drew = .ok news.toArray w.drew)
    (hg : cc < n + q.size) (h63 : n + q.size ≤ maxLen) (hby : (n + q.size) * j.bytes ≤ 140737488355328) : Eff P w S σ H ev o id (.osl id j.size 0 (n + q.size)) (H.put id (.row e j.size (es ++ ys))) := by
  obtain ⟨zv, hzv, hzs, hz1⟩ := zeroA_info hz hi
  have hca' : c.args = #[s, x] := Array.toList_inj.1 hca
  have hct' : c.argTypes = #[t, t'] := Array.toList_inj.1 hct
  have hrun := app_growS (P := P) (w := w) (ty := o.type) hu hu' hi hzv hfo hfn hg h63 hby
  have hge := grownCap_ge w (n + q.size) cc e
  have hcm : grownCap w (n + q.size) cc e ≤ maxLen := grownCap_le_maxLen w (n + q.size) cc e h63
  have hl : (es ++ ys).length = n + q.size := by rw [List.length_append, hen, hym]
  have hel : ∀ e ∈ es ++ ys, e.length = j.size := fun e he => (List.mem_append.1 he).elim (hes e) (hys e)
  have hol : olds.length = n * j.size := by rw [← hro.1, flat_length hes, hen]
  have hnl : news.length = q.size * j.size := by rw [← hrn.1, flat_length hys, hym]
  have hzr : ∃ rest, Rps w S σ rest (Builtin.zeroCells zv.cells (grownCap w (n + q.size) cc e - (n + q.size))).toList := ⟨_, anys _⟩
  obtain ⟨rest, hrest⟩ := hzr
  have := row_eff1 (ev := ev) (o := o) hs (w1 := w.drew) ⟨rfl, rfl, rfl, rfl⟩ hid hσ (t := e) (sz := j.size) (c := grownCap w (n + q.size) cc e) (es := es ++ ys) (rest := rest)
    (arr := olds.toArray ++ news.toArray ++ Builtin.zeroCells zv.cells (grownCap w (n + q.size) cc e - (n + q.size))) hel
    (by rw [List.flatten_append]; simp only [Array.toList_append]; exact (hro.append hrn).append hrest) (fun u hu => by
      simp only [Array.mem_append, List.mem_toArray] at hu
      rcases hu with (hu | hu) | hu
      · exact ho1 u hu
      · exact hn1 u hu
      · exact zc_one hz1 (by omega) _ u hu) (by rw [hl]; exact hge) hcm (by
      simp only [Array.size_append, List.size_toArray, size_zeroCells, hzs, hzl, hol, hnl, ← Nat.add_mul]
      exact Nat.mul_le_mul_right _ (by omega)) (by
      rw [hl]
      simp [execOp, ho, resolve, hcb, hca', hct', invoke, builtin, hx, hy, hrun])
  rwa [hl] at this
theorem wr_aps {o : Oper} {c : Call} {s x : Operand} {t t' e : TypeId} {z : List AV} {j : TypeInfo} {a : AV} {args : List AV} {id : Nat} {H' : AH} (hs : Sat P w S σ H) (hid : id < H.nx) (hσ : σ id = none) (ho : o.op = .call c) (hcb : c.callee = .builtin .append) (hca : c.args.toList = [s, x]) (hct : c.argTypes.toList = [t, t'])
    (hu : P.underlying t = some (.slice e)) (hu' : P.underlying t' = some .string) (hj1 : j.size = 1) (hz : zeroA P e = some z) (hi : P.info? e = some j) (hzl : z.length = j.size) (hjs : j.size ≠ 0) (hp : WrR P id (.aps e j.size j.bytes) args H a H') (hr : Rps w S σ args [ev s, ev x]) : Eff P w S σ H ev o id a H' := by
  have hca' : c.args = #[s, x] := Array.toList_inj.1 hca
  have hct' : c.argTypes = #[t, t'] := Array.toList_inj.1 hct
  have exec : ∀ {v1 v2 r : Value} {w' : World}, ev s = v1 → ev x = v2 → (Builtin.append_ #[t, t'] o.type #[v1, v2]).run P w = .ok r w' → (execOp ev o).run P w = .ok (.value r) w' := by
    intro v1 v2 r w' h1 h2 h3
    simp [execOp, ho, resolve, hcb, hca', hct', invoke, builtin, h1, h2, h3]
  -- what is appended
  have src : ∀ q : ByteArray, ∃ news : List Value, news.length = (strE q).length * j.size ∧ Rps w S σ (strE q).flatten news ∧ (∀ u ∈ news, u.oneCell' = true) ∧ (∀ y ∈ strE q, y.length = j.size) ∧ ∀ (w1 : World), (Builtin.firstCells j.size q.size (.string q)).run P w1 = .ok news.toArray w1 := fun q => by
    refine ⟨q.data.toList.map fun b => .int .u8 b.toNat, by rw [hj1]; simp [strE], strE_rps q, fun u hu => ?_, fun y hy => ?_, fun w1 => ?_⟩
    · obtain ⟨b, _, rfl⟩ := List.mem_map.1 hu; rfl
    · obtain ⟨b, _, rfl⟩ := List.mem_map.1 hy; rw [hj1]; rfl
    · have he : q.extract 0 q.size = q := by simp
      simp [Builtin.firstCells, he]
      exact Array.toList_inj.1 (by simp)
  cases hp with
  | aps_nil _ _ _ q _ h63 hby =>
    obtain ⟨v1, v2, e1, q1, q2⟩ := hr.two_inv
    simp only [List.cons.injEq, and_true] at e1
    obtain ⟨rfl, rfl⟩ := e1
    have hx := q1.p_inv.1
    have hy := q2.p_inv.1
    obtain ⟨news, n1, n2, n3, hE1, n4⟩ := src q
    have hsz := strE_len q
    generalize hys : strE q = ys at *
    have hqs : q.size = ys.length := hsz.symm
    by_cases h0 : ys.length = 0
    · have : ys = [] := List.eq_nil_of_length_eq_zero h0
      subst this
      have n4' := n4 w
      have hq0 : q.size = 0 := hqs
      have hqe : q = .empty := ByteArray.ext (Array.eq_empty_of_size_eq_zero hq0)
      subst hqe
      have hn : news = [] := List.eq_nil_of_length_eq_zero (by simpa using n1)
      subst hn
      simp only [List.length_nil] at hy ⊢
      refine none_eff hs hid hσ (B := none) (exec hx hy ?_)
      have n4'' : (Builtin.firstCells j.size 0 (.string .empty)).run P w = .ok #[] w := n4'
      simp [Builtin.append_, run_underlying hu, run_underlying hu', sizeOf, typeInfo, hi, Builtin.lenOf, n4'']
    · have := grow_effS (ev := ev) (o := o) hs ho hcb hca hct hu hu' hz hi hzl hjs hid hσ (n := 0) (cc := 0) (B := none) (q := q) (es := []) (ys := ys) (olds := []) (news := news) (by simp) hE1 rfl hsz .nil n2 (by simp) n3 hx hy
        (by simp [Builtin.firstCells]) (n4 w.drew) (by omega) (by omega) (by rw [Nat.zero_add, hqs]; exact hby)
      rw [hqs] at this
      simpa using this
  | aps_row _ _ _ r off n es q _ hg hle h63 hby =>
    obtain ⟨v1, v2, e1, q1, q2⟩ := hr.two_inv
    simp only [List.cons.injEq, and_true] at e1
    obtain ⟨rfl, rfl⟩ := e1
    obtain ⟨Ar, B, N, cr, cc, hx, hσr, k1, k2, k3⟩ := q1.osl_inv
    have hy := q2.p_inv.1
    obtain ⟨news, n1, n2, n3, hE1, n4⟩ := src q
    have hsz := strE_len q
    generalize hys : strE q = ys at *
    have hqs : q.size = ys.length := hsz.symm
    obtain ⟨Ab, cb, hb1⟩ := el_sound hs (.row r off n e es hg hle) q1
    have hbase : Elts w S σ j.size B ((es.drop off).take n) := by
      rcases hb1 with ⟨hb1, hb2, _⟩ | ⟨hb0, hb1, rfl⟩
      · rw [hx] at hb1; injection hb1 with hb1 _ _; subst hb1; exact hb2
      · rw [hb0]; exact ⟨by simp, [], by simp, .nil, by simp, by simp⟩
    obtain ⟨olds, o1, o2, o3, o4⟩ := elts_read (P := P) hbase (sub_len hle)
    have hsub : Sat P w S σ (H.kill r) := hs.kill hg
    by_cases hroom : n + ys.length ≤ cc
    · by_cases hcc : cc = 0
      · have hn0 : n = 0 := by omega
        have hy0 : ys = [] := List.eq_nil_of_length_eq_zero (by omega)
        subst hn0; subst hy0; subst hcc
        simp only [List.take_zero, List.nil_append, List.length_nil, Nat.add_zero]
        refine Eff.less (fun b h => Foot.kill h) (none_eff hsub hid hσ (B := B) (exec hx hy ?_))
        have n4' := n4 w
        have hn : news = [] := List.eq_nil_of_length_eq_zero (by simpa using n1)
        subst hn
        have hq0 : q.size = 0 := hqs
        have hqe : q = .empty := ByteArray.ext (Array.eq_empty_of_size_eq_zero hq0)
        subst hqe
        have n4'' : (Builtin.firstCells j.size 0 (.string .empty)).run P w = .ok #[] w := n4'
        cases B <;> simp [Builtin.append_, run_underlying hu, run_underlying hu', sizeOf, typeInfo, hi, Builtin.lenOf, n4'', storeCells]
      · obtain ⟨A', c', m1, m2, m3, m4, m5⟩ := hs.obj r _ hg
        rw [hσr] at m1
        simp only [Option.some.injEq, Value.slice.injEq] at m1
        obtain ⟨rfl, rfl, rfl⟩ := m1
        rcases m5 with ⟨_, m5⟩ | ⟨g, o', arr, rfl, p1, p2, p3, p4⟩
        · omega
        have hB : B = some ⟨g, o' + off * j.size, none⟩ := by rw [k3 (by omega), Option.map_some, addr_add]
        subst hB
        have hfit : o' + off * j.size + n * j.size + news.length ≤ arr.size := by
          rw [n1]
          have : (off + (n + ys.length)) * j.size ≤ cr * j.size := Nat.mul_le_mul_right _ (by omega)
          rw [Nat.add_mul, Nat.add_mul] at this
          omega
        have hrun := app_roomS (P := P) (w := w) (ty := o.type) hu hu' hi p1 (by rw [hqs]; exact n1) n3 (n4 w) (by rw [hqs]; exact hroom) hfit
        rw [hqs] at hrun
        have hspl : ∀ q, (arr.toList.take (o' + off * j.size + n * j.size) ++ news ++ arr.toList.drop (o' + off * j.size + n * j.size + news.length))[q]? = _ := fun q => splice_get arr.toList news (o' + off * j.size + n * j.size) q (by rw [Array.length_toList]; exact hfit)
        have hnone : ∀ y, σ id = some y → y = .slice (some ⟨g, o' + off * j.size, none⟩) (n + ys.length) cc := fun y hy => by rw [hσ] at hy; cases hy
        have hbk : (σ r).bind blkOf = some g := by rw [hσr]; rfl
        have hkeep : ∀ b, b ≠ g → (w.setRow g (arr.toList.take (o' + off * j.size + n * j.size) ++ news ++ arr.toList.drop (o' + off * j.size + n * j.size + news.length)).toArray).heap[b]? = w.heap[b]? := fun b hb => setRow_other w g b _ hb
        have hS : ∀ b, S b → (w.setRow g (arr.toList.take (o' + off * j.size + n * j.size) ++ news ++ arr.toList.drop (o' + off * j.size + n * j.size + news.length)).toArray).heap[b]? = w.heap[b]? := fun b hb => hkeep b (fun e => hs.sep r _ b hg rfl (by rw [hbk, e]) hb)
        have hlen : ((es.drop off).take n ++ ys).length = n + ys.length := by rw [List.length_append, sub_len hle]
        have mono : ∀ {a : AV} {v : Value}, Rp w S σ a v → Rp (w.setRow g (arr.toList.take (o' + off * j.size + n * j.size) ++ news ++ arr.toList.drop (o' + off * j.size + n * j.size + news.length)).toArray) S (sput σ id (.slice (some ⟨g, o' + off * j.size, none⟩) (n + ys.length) cc)) a v := fun h => h.mono (fun _ h => h) hS (sput_ext hnone)
        refine ⟨_, _, sput σ id (.slice (some ⟨g, o' + off * j.size, none⟩) (n + ys.length) cc), exec hx hy hrun, .inl ⟨_, rfl, .osl _ _ _ _ _ _ _ cc cc sput_self hroom (by omega) (fun _ => by simp [addr_add])⟩,
          hsub.upd hid hnone (by simp) (fun b hb hne => hkeep b (fun e => hne (by rw [e]; rfl))) (fun b hb => ?_) ?_ (fun j o b h1 h2 h3 => hsub.lt h1 h2 h3) (fun A n c e => ?_),
          Ext.lessR (H1 := H.put id (.row e j.size ((es.drop off).take n ++ ys))) (Ext.upd hs hnone rfl rfl rfl (by simp) (fun b hb hne => hkeep b (fun e => hne (by rw [e]; rfl))) (fun b hb => ?_)) (fun b hb => ?_), fun k hk => sput_ne hk⟩
        · simp only [blkOf, Option.some.injEq] at hb; subst hb
          refine ⟨hs.sep r _ g hg rfl hbk, fun k o2 hk h2 h3 h4 => ?_⟩
          obtain ⟨h2', hne⟩ := AH.kill_get h2 h3
          exact hne (hs.dj k r o2 _ g h2' hg h3 rfl h4 hbk)
        · refine ⟨_, cc, by rw [hlen]; exact sput_self, fun y hy => ?_, by rw [hlen]; exact hroom, by omega, .inr ⟨g, _, _, rfl, setRow_heap w g arr _ e (0, 0) p1, ?_, fun u hu => ?_, fun i e' jj b he hb' => ?_⟩⟩
          · exact (List.mem_append.1 hy).elim (fun h => m2 y (sub_mem h)) (hE1 y)
          · rw [List.size_toArray, splice_len _ _ _ (by rw [Array.length_toList]; exact hfit), Array.length_toList]
            have : (off + cc) * j.size = cr * j.size := by rw [k2]
            rw [Nat.add_mul] at this
            omega
          · rw [← Array.mem_toList_iff, List.toList_toArray] at hu
            rcases List.mem_append.1 hu with hu | hu
            · rcases List.mem_append.1 hu with hu | hu
              · exact p3 u (Array.mem_toList_iff.1 (List.mem_of_mem_take hu))
              · exact n3 u hu
            · exact p3 u (Array.mem_toList_iff.1 (List.mem_of_mem_drop hu))
          · rw [List.getElem?_toArray, hspl]
            by_cases hin : i < n
            · rw [List.getElem?_append_left (by rw [sub_len hle]; exact hin)] at he
              obtain ⟨_, he'⟩ := sub_at he
              have hjl : jj < j.size := by have := (List.getElem?_eq_some_iff.1 hb').1; rw [m2 e' (List.mem_of_getElem? he')] at this; exact this
              obtain ⟨u, hu, hru⟩ := p4 (off + i) e' jj b he' hb'
              have : (i + 1) * j.size ≤ n * j.size := Nat.mul_le_mul_right _ (by omega)
              rw [Nat.add_mul, Nat.one_mul] at this
              refine ⟨u, ?_, mono hru⟩
              rw [if_pos (by omega), Array.getElem?_toList, show o' + off * j.size + i * j.size + jj = o' + (off + i) * j.size + jj by rw [Nat.add_mul]; omega]; exact hu
            · rw [List.getElem?_append_right (by rw [sub_len hle]; omega), sub_len hle] at he
              have hjl : jj < j.size := by have := (List.getElem?_eq_some_iff.1 hb').1; rw [hE1 e' (List.mem_of_getElem? he)] at this; exact this
              have hfl := flat_elem hE1 (i - n) e' jj b he hb'
              obtain ⟨u, hu, hru⟩ := n2.at_ hfl
              have hil : i - n < ys.length := (List.getElem?_eq_some_iff.1 he).1
              have h7 : (i - n + 1) * j.size ≤ ys.length * j.size := Nat.mul_le_mul_right _ (by omega)
              have h8 : (n + (i - n)) * j.size = i * j.size := by congr 1; omega
              rw [Nat.add_mul] at h7 h8
              refine ⟨u, ?_, mono hru⟩
              rw [if_neg (by omega), if_pos (by rw [n1]; omega), show o' + off * j.size + i * j.size + jj - (o' + off * j.size + n * j.size) = (i - n) * j.size + jj by omega]; exact hu
        · injection e with e1 e2 e3
          subst e1; subst e2; subst e3
          exact ⟨hroom, fun _ => ⟨_, _, rfl⟩, by omega⟩
        · simp only [blkOf, Option.some.injEq] at hb; subst hb; exact .inl ⟨r, _, hg, rfl, hbk⟩
        · obtain ⟨k, o, h1, h2, h3⟩ := hb
          by_cases hk : k = id
          · subst hk; rw [AH.get_put_self] at h1; exact ⟨k, o, by rw [AH.get_put_self]; exact h1, h2, h3⟩
          · rw [AH.get_put_ne hk] at h1; exact ⟨k, o, by rw [AH.get_put_ne hk]; exact (AH.kill_get h1 h2).1, h2, h3⟩
    · refine Eff.less (H0 := H.kill r) (fun b h => Foot.kill h) ?_
      rw [← hqs]
      exact grow_effS (ev := ev) (o := o) hsub ho hcb hca hct hu hu' hz hi hzl hjs hid hσ (fun y hy => hbase.1 y hy) hE1 (sub_len hle) hsz o2 n2 o3 n3 hx hy (o4 w.drew cc rfl) (n4 w.drew) (by omega) (by rw [hqs]; exact h63) (by rw [hqs]; exact hby)
theorem appz_grow {t t' ty e : TypeId} {i : TypeInfo} {k k' : IntKind} {z : Value} (ht : P.underlying t = some (.slice e)) (ht' : P.underlying t' = some (.int k')) (hi : P.info? e = some i) (hz : i.zero = some z) {n : Nat} (h0 : 0 < n) (hs0 : i.size ≠ 0) (h63 : n ≤ maxLen) (hby : n * i.bytes ≤ 140737488355328) :
    (Builtin.append_ #[t, t'] ty #[.slice none 0 0, .int k n]).run P w = .ok (.slice (some ⟨w.heap.size, 0, none⟩) n (grownCap w n 0 e)) (w.drew.alloc (.cells (Builtin.zeroCells z.cells n ++ Builtin.zeroCells z.cells (grownCap w n 0 e - n)) e)) := by
  have hfit := growslice_fits (old := 0) h0 hby
  have hml : maxLen = 9223372036854775807 := by decide
  have hw : IntKind.i64.wrap (n : Int) = n := by rw [IntKind.wrap_i64]; omega
  have h1 : ¬ ((n : Int) < 0) := by omega
  have h2 : ¬ (9223372036854775807 < (n : Int)) := by omega
  have h3 : ¬ (281474976710656 < (n : Int) * i.bytes) := by
    rw [← Int.natCast_mul]; omega
  have h4 : ¬ (281474976710656 < Builtin.nextslicecap n 0 * i.bytes) := by omega
  have h5 : ¬ n = 0 := by omega
  simp [Builtin.append_, run_underlying ht, run_underlying ht', sizeOf, typeInfo, zeroValue, hi, hz, Builtin.lenOf, asInt, asIntOf, hw, h1, h2, h3, h4, h5, hs0, Question.forced, newRow, grownCap, Builtin.firstCells]
  intro h
  exact absurd h (Nat.mul_ne_zero h5 hs0)
theorem wr_apz {o : Oper} {c : Call} {s x : Operand} {t t' e : TypeId} {k' : IntKind} {z : List AV} {j : TypeInfo} {a : AV} {args : List AV} {id : Nat} {H' : AH} (hs : Sat P w S σ H) (hid : id < H.nx) (hσ : σ id = none) (ho : o.op = .call c) (hcb : c.callee = .builtin .append) (hca : c.args.toList = [s, x]) (hct : c.argTypes.toList = [t, t'])
    (hu : P.underlying t = some (.slice e)) (hu' : P.underlying t' = some (.int k')) (hz : zeroA P e = some z) (hi : P.info? e = some j) (hzl : z.length = j.size) (hjs : j.size ≠ 0) (hp : WrR P id (.apz e j.size j.bytes z) args H a H') (hr : Rps w S σ args [ev s, ev x]) : Eff P w S σ H ev o id a H' := by
  have hca' : c.args = #[s, x] := Array.toList_inj.1 hca
  have hct' : c.argTypes = #[t, t'] := Array.toList_inj.1 hct
  cases hp with
  | apz _ _ _ _ k n _ h0 h63 hby =>
    obtain ⟨v1, v2, e1, q1, q2⟩ := hr.two_inv
    simp only [List.cons.injEq, and_true] at e1
    obtain ⟨rfl, rfl⟩ := e1
    have hx := q1.p_inv.1
    have hy := q2.p_inv.1
    obtain ⟨m, rfl⟩ := Int.eq_ofNat_of_zero_le h0
    simp only [Int.toNat_natCast]
    have h63' : m ≤ maxLen := by omega
    have hby' : m * j.bytes ≤ 140737488355328 := by
      have hq : (m : Int) * (j.bytes : Int) ≤ 140737488355328 := hby
      rw [← Int.natCast_mul] at hq; omega
    obtain ⟨zv, hzv, hzs, hz1⟩ := zeroA_info hz hi
    by_cases hm : m = 0
    · subst hm
      refine none_eff hs hid hσ (B := none) ?_
      have hw : IntKind.i64.wrap 0 = 0 := by rw [IntKind.wrap_i64]; omega
      simp [execOp, ho, resolve, hcb, hca', hct', invoke, builtin, hx, hy, Builtin.append_, run_underlying hu, run_underlying hu', sizeOf, typeInfo, hi, Builtin.lenOf, asInt, asIntOf, hw]
    · have hrun := appz_grow (P := P) (w := w) (ty := o.type) (k := k) hu hu' hi hzv (n := m) (by omega) hjs h63' hby'
      have hge := grownCap_ge w m 0 e
      have hcm : grownCap w m 0 e ≤ maxLen := grownCap_le_maxLen w m 0 e h63'
      obtain ⟨v, hv, _, q1', q2'⟩ := zeroA_run (P := P) (w := w) (S := S) (σ := σ) hz
      have hvz : v = zv := by simp [zeroValue, typeInfo, hi, hzv] at hv; exact hv.symm
      subst hvz
      obtain ⟨z1, z2⟩ := zeros_rep q1' q2' (by omega) m
      have hrest : ∃ rest, Rps w S σ rest (Builtin.zeroCells v.cells (grownCap w m 0 e - m)).toList := ⟨_, anys _⟩
      obtain ⟨rest, hrest⟩ := hrest
      have hl : (List.replicate m z).length = m := List.length_replicate
      have := row_eff1 (ev := ev) (o := o) hs (w1 := w.drew) ⟨rfl, rfl, rfl, rfl⟩ hid hσ (t := e) (sz := j.size) (c := grownCap w m 0 e) (es := List.replicate m z) (rest := rest)
        (arr := Builtin.zeroCells v.cells m ++ Builtin.zeroCells v.cells (grownCap w m 0 e - m)) (fun e he => by rw [(List.mem_replicate.1 he).2]; exact hzl)
        (by rw [Array.toList_append]; exact z1.append hrest) (fun u hu => by
          rcases Array.mem_append.1 hu with hu | hu
          · exact z2 u hu
          · exact zc_one hz1 (by omega) _ u hu) (by rw [hl]; exact hge) hcm (by
          simp only [Array.size_append, size_zeroCells, hzs, hzl, ← Nat.add_mul]
          exact Nat.mul_le_mul_right _ (by omega)) (by
          rw [hl]
          simp [execOp, ho, resolve, hcb, hca', hct', invoke, builtin, hx, hy, hrun])
      rwa [hl] at this
theorem rep_flat_len (n : Nat) (z : List AV) : (List.replicate n z).flatten.length = n * z.length := by simp
theorem wr_clr {o : Oper} {c : Call} {s : Operand} {t e : TypeId} {z : List AV} {j : TypeInfo} {a : AV} {args : List AV} {id : Nat} {H' : AH} (hs : Sat P w S σ H) (ho : o.op = .call c) (hcb : c.callee = .builtin .clear) (hca : c.args.toList = [s]) (hct : c.argTypes.toList = [t])
    (hu : P.underlying t = some (.slice e)) (hz : zeroA P e = some z) (hi : P.info? e = some j) (hzl : z.length = j.size) (hjs : j.size ≠ 0) (hp : WrR P id (.clr j.size z) args H a H') (hr : Rps w S σ args [ev s]) : Eff P w S σ H ev o id a H' := by
  have hca' : c.args = #[s] := Array.toList_inj.1 hca
  have hct' : c.argTypes = #[t] := Array.toList_inj.1 hct
  cases hp with
  | clr _ r off n _ t2 es _ hg hle =>
    obtain ⟨v1, e1, q1⟩ := hr.one_inv
    injection e1 with e1; subst e1
    obtain ⟨Ar, B, N, cr, cc, hx, hσr, k1, k2, k3⟩ := q1.osl_inv
    obtain ⟨A', c', m1, m2, m3, m4, m5⟩ := hs.obj r _ hg
    rw [hσr] at m1
    simp only [Option.some.injEq, Value.slice.injEq] at m1
    obtain ⟨rfl, rfl, rfl⟩ := m1
    by_cases h0 : n = 0
    · subst h0
      have hrun : (execOp ev o).run P w = .ok (.value (.tuple #[])) w := by
        cases B <;> simp [execOp, ho, resolve, hcb, hca', hct', invoke, builtin, hx, Builtin.clear_, run_underlying hu]
      have hsame : es.take off ++ List.replicate 0 z ++ es.drop (off + 0) = es := by simp
      rw [hsame]
      have hget : ∀ id, (H.put r (.row t2 j.size es)).get id = H.get id := fun id => by
        by_cases e : id = r
        · subst e; rw [AH.get_put_self, hg]
        · rw [AH.get_put_ne e]
      exact ⟨_, w, σ, hrun, .inl ⟨_, rfl, .any _⟩, hs.congr hget (Nat.le_refl _), Ext.lessR (Ext.refl w S σ H) (fun b hb => Foot.less (fun id o h => by rw [← hget]; exact h) hb), fun _ _ => rfl⟩
    · rcases m5 with ⟨_, m5⟩ | ⟨g, o', arr, rfl, p1, p2, p3, p4⟩
      · omega
      have hB : B = some ⟨g, o' + off * j.size, none⟩ := by rw [k3 (by omega), Option.map_some, addr_add]
      subst hB
      obtain ⟨v, hv, _, q1', q2'⟩ := zeroA_run (P := P) (w := w) (S := S) (σ := σ) hz
      obtain ⟨z1, z2⟩ := zeros_rep q1' q2' (by omega) n
      change Rps w S σ _ (Builtin.zeroCells v.cells n).toList at z1
      have hzl' : ((Builtin.zeroCells v.cells n).toList).length = n * j.size := by rw [← z1.1, rep_flat_len, hzl]
      have hoff : (off + n) * j.size ≤ es.length * j.size := Nat.mul_le_mul_right _ hle
      have hesc : es.length * j.size ≤ cr * j.size := Nat.mul_le_mul_right _ m3
      rw [Nat.add_mul] at hoff
      have hfit : o' + off * j.size + ((Builtin.zeroCells v.cells n).toList).length ≤ arr.size := by rw [hzl']; omega
      have hst := run_storeCells_at (P := P) g (o' + off * j.size) t2 (Builtin.zeroCells v.cells n).toList 0 arr w p1 (by omega) (fun u hu => z2 u (Array.mem_toList_iff.1 hu))
      simp only [Nat.add_zero] at hst
      have hrun : (execOp ev o).run P w = .ok (.value (.tuple #[])) (w.setRow g (arr.toList.take (o' + off * j.size) ++ (Builtin.zeroCells v.cells n).toList ++ arr.toList.drop (o' + off * j.size + (Builtin.zeroCells v.cells n).toList.length)).toArray) := by
        simp [execOp, ho, resolve, hcb, hca', hct', invoke, builtin, hx, Builtin.clear_, run_underlying hu, hv, h0] at hst ⊢
        rw [hst]
        rfl
      have hspl : ∀ q, (arr.toList.take (o' + off * j.size) ++ (Builtin.zeroCells v.cells n).toList ++ arr.toList.drop (o' + off * j.size + (Builtin.zeroCells v.cells n).toList.length))[q]? = _ := fun q => splice_get arr.toList (Builtin.zeroCells v.cells n).toList (o' + off * j.size) q (by rw [Array.length_toList]; exact hfit)
      have hrl : (List.replicate n z).length = n := List.length_replicate
      have hel : ∀ q, (es.take off ++ List.replicate n z ++ es.drop (off + n))[q]? = if q < off then es[q]? else if q < off + n then some z else es[q]? := fun q => by
        have := splice_get es (List.replicate n z) off q (by rw [hrl]; exact hle)
        rw [hrl] at this
        rw [this]
        split
        · rfl
        · split
          · rw [List.getElem?_replicate, if_pos (by omega)]
          · rfl
      have hlen : (es.take off ++ List.replicate n z ++ es.drop (off + n)).length = es.length := by
        have := splice_len es (List.replicate n z) off (by rw [hrl]; exact hle)
        rw [hrl] at this; exact this
      refine set_eff1 hs hg rfl hσr rfl p1 (hs.dom _ _ hσr) (.inl ⟨_, rfl⟩) hrun (fun w' hk hb => ⟨_, cr, by rw [hσr, hlen], fun x hx => ?_, by rw [hlen]; exact m3, m4, .inr ⟨g, o', _, rfl, hb, ?_, fun u hu => ?_, fun i' e' j' b he hb' => ?_⟩⟩)
      · obtain ⟨q, hq⟩ := List.getElem?_of_mem hx
        rw [hel] at hq
        split at hq
        · exact m2 x (List.mem_of_getElem? hq)
        · split at hq
          · injection hq with hq; subst hq; exact hzl
          · exact m2 x (List.mem_of_getElem? hq)
      · rw [List.size_toArray, splice_len _ _ _ (by rw [Array.length_toList]; exact hfit), Array.length_toList]; exact p2
      · rw [← Array.mem_toList_iff, List.toList_toArray] at hu
        rcases List.mem_append.1 hu with hu | hu
        · rcases List.mem_append.1 hu with hu | hu
          · exact p3 u (Array.mem_toList_iff.1 (List.mem_of_mem_take hu))
          · exact z2 u (Array.mem_toList_iff.1 hu)
        · exact p3 u (Array.mem_toList_iff.1 (List.mem_of_mem_drop hu))
      · rw [List.getElem?_toArray, hspl]
        rw [hel] at he
        have mono : ∀ {a : AV} {v : Value}, Rp w S σ a v → Rp w' S σ a v := fun h => h.mono (fun _ h => h) (fun b hS => hk b (fun e => hs.sep r _ b hg rfl (by rw [hσr, e]; rfl) hS)) (fun _ _ h => h)
        by_cases hi1 : i' < off
        · rw [if_pos hi1] at he
          have hjl : j' < j.size := by have := (List.getElem?_eq_some_iff.1 hb').1; rw [m2 e' (List.mem_of_getElem? he)] at this; exact this
          obtain ⟨u, hu, hru⟩ := p4 i' e' j' b he hb'
          have : (i' + 1) * j.size ≤ off * j.size := Nat.mul_le_mul_right _ (by omega)
          rw [Nat.add_mul, Nat.one_mul] at this
          exact ⟨u, by rw [if_pos (by omega), Array.getElem?_toList]; exact hu, mono hru⟩
        · rw [if_neg hi1] at he
          by_cases hi2 : i' < off + n
          · rw [if_pos hi2] at he
            injection he with he
            subst he
            have hjl : j' < j.size := by have := (List.getElem?_eq_some_iff.1 hb').1; omega
            have hfl := flat_elem (es := List.replicate n z) (sz := j.size) (fun e he => by rw [(List.mem_replicate.1 he).2]; exact hzl) (i' - off) z j' b (by rw [List.getElem?_replicate, if_pos (by omega)]) hb'
            obtain ⟨u, hu, hru⟩ := z1.at_ hfl
            have h7 : (i' - off + 1) * j.size ≤ n * j.size := Nat.mul_le_mul_right _ (by omega)
            have h8 : (off + (i' - off)) * j.size = i' * j.size := by congr 1; omega
            rw [Nat.add_mul] at h7 h8
            refine ⟨u, ?_, mono hru⟩
            rw [if_neg (by omega), if_pos (by rw [hzl']; omega), show o' + i' * j.size + j' - (o' + off * j.size) = (i' - off) * j.size + j' by omega]; exact hu
          · rw [if_neg hi2] at he
            obtain ⟨u, hu, hru⟩ := p4 i' e' j' b he hb'
            have : (off + n) * j.size ≤ i' * j.size := Nat.mul_le_mul_right _ (by omega)
            rw [Nat.add_mul] at this
            exact ⟨u, by rw [if_neg (by omega), if_neg (by rw [hzl']; omega), Array.getElem?_toList]; exact hu, mono hru⟩
theorem lies_bytes {e : TypeId} (hc : P.cellsOf e = 1) (count off n : Nat) (hn : off + n ≤ count) : liesAt P P.depth e count off e n = true := by
  have hd : P.depth = (2 * (P.types.size + Made.depth) + 1) + 1 := rfl
  rw [hd]
  simp only [liesAt, Bool.or_eq_true]
  left
  rw [hd]
  simp [rowAt, hc, hn, sameLayout, Nat.mod_one]
theorem ust_run {pt it ty e : TypeId} (hp : P.underlying pt = some (.pointer e)) (hc : P.cellsOf e = 1) {g o cells : Nat} (hsh : w.shape? g = some (e, cells)) {l : List UInt8} (h0 : l ≠ []) (hn : o + l.length ≤ cells) (h63 : l.length ≤ 9223372036854775807)
    (hcell : ∀ j x, l[j]? = some x → w.cell? ((⟨g, o, none⟩ : Addr).add j) = some (.int .u8 x.toNat)) :
    (Builtin.unsafeString_ #[pt, it] ty #[.pointer (some ⟨g, o, none⟩), .int .i64 l.length]).run P w = .ok (.string ⟨l.toArray⟩) (w.freeze ⟨g, o, none⟩ l.length) := by
  have hl : l.length ≠ 0 := by simpa using h0
  have hlb := Lib.run_loadBytes (P := P) w l ⟨g, o, none⟩ .empty hcell
  have hlies := lies_bytes (P := P) hc (cells / P.cellsOf e) o l.length (by rw [hc]; simpa using hn)
  have h63' : ¬ (9223372036854775807 : Int) < (l.length : Int) := by omega
  have hmax : IntKind.i64.max = 9223372036854775807 := rfl
  have hneg : ¬ (l.length : Int) < 0 := by omega
  show (asInt (Value.int .i64 (l.length : Int)) >>= _).run P w = _
  simp [asInt, asIntOf, hmax, h63', hneg, hl, variablesAt, hsh, elemOf, run_underlying hp, hlies, hlb]
theorem freeze_keep (w : World) (g o n b : Nat) (h : b ≠ g) : (w.freeze ⟨g, o, none⟩ n).heap[b]? = w.heap[b]? := by
  unfold World.freeze
  split
  · rfl
  · simp only [Array.getElem?_modify]
    rw [if_neg (fun e => h e.symm)]
theorem freeze_rest (w : World) (g o n : Nat) : (w.freeze ⟨g, o, none⟩ n).os = w.os ∧ (w.freeze ⟨g, o, none⟩ n).tape = w.tape ∧ (w.freeze ⟨g, o, none⟩ n).output = w.output ∧ (w.freeze ⟨g, o, none⟩ n).heap.size = w.heap.size := by
  unfold World.freeze
  split
  · exact ⟨rfl, rfl, rfl, rfl⟩
  · exact ⟨rfl, rfl, rfl, by simp⟩
theorem wr_ust {o : Oper} {c : Call} {p n : Operand} {pt it e : TypeId} {a : AV} {args : List AV} {id : Nat} {H' : AH} (hs : Sat P w S σ H) (ho : o.op = .call c) (hcb : c.callee = .builtin .unsafeString) (hca : c.args.toList = [p, n]) (hct : c.argTypes.toList = [pt, it])
    (hu : P.underlying pt = some (.pointer e)) (hce : P.cellsOf e = 1) (hp : WrR P id (.ust e) args H a H') (hr : Rps w S σ args [ev p, ev n]) : Eff P w S σ H ev o id a H' := by
  have hca' : c.args = #[p, n] := Array.toList_inj.1 hca
  have hct' : c.argTypes = #[pt, it] := Array.toList_inj.1 hct
  cases hp with
  | ust_row _ r i m es q _ hg h0 hle hq =>
    obtain ⟨v1, v2, e1, q1, q2⟩ := hr.two_inv
    simp only [List.cons.injEq, and_true] at e1
    obtain ⟨rfl, rfl⟩ := e1
    have hn := q2.p_inv.1
    obtain ⟨g, o1, N, cr, hx, hσ⟩ := q1.eptr_inv
    obtain ⟨A', c', m1, m2, m3, m4, m5⟩ := hs.obj r _ hg
    rw [hσ] at m1
    simp only [Option.some.injEq, Value.slice.injEq] at m1
    obtain ⟨rfl, rfl, rfl⟩ := m1
    rcases m5 with ⟨m5, _⟩ | ⟨g', o', arr, m5, k1, k2, k3, k4⟩
    · cases m5
    simp only [Option.some.injEq, Addr.mk.injEq, and_true] at m5
    obtain ⟨rfl, rfl⟩ := m5
    rw [Nat.mul_one, Nat.add_zero] at hx
    have hlen : q.data.toList.length = m := by
      have := congrArg List.length hq
      rw [sub_len hle, strE_len] at this
      rw [Array.length_toList]; exact this.symm
    have hcell : ∀ j x, q.data.toList[j]? = some x → w.cell? ((⟨g, o1 + i, none⟩ : Addr).add j) = some (.int .u8 x.toNat) := by
      intro j x hj
      have he : ((es.drop i).take m)[j]? = some [.p (.int .u8 x.toNat)] := by
        rw [hq]; unfold strE; rw [List.getElem?_map, hj]; rfl
      obtain ⟨_, he'⟩ := sub_at he
      obtain ⟨u, hu', hru⟩ := k4 (i + j) _ 0 _ he' rfl
      rw [hru.p_inv.1] at hu'
      rw [addr_add, k1.cell, ← hu']
      congr 1; omega
    have hk1 : w.heap[g]? = some (.cells arr e (0, 0)) := k1
    have hsh : w.shape? g = some (e, arr.size) := by simp [World.shape?, hk1]
    have hml : maxLen = 9223372036854775807 := by decide
    have hrun := ust_run (P := P) (w := w) (it := it) (ty := o.type) hu hce hsh (l := q.data.toList) (o := o1 + i) (by intro e; rw [e] at hlen; simp at hlen; omega) (by omega) (by omega) hcell
    rw [hlen] at hrun
    have hexec : (execOp ev o).run P w = .ok (.value (.string q)) (w.freeze ⟨g, o1 + i, none⟩ m) := by
      have hqq : (⟨q.data.toList.toArray⟩ : ByteArray) = q := by cases q; simp
      rw [hqq] at hrun
      simp [execOp, ho, resolve, hcb, hca', hct', invoke, builtin, hx, hn, hrun]
    obtain ⟨f1, f2, f3, f4⟩ := freeze_rest w g (o1 + i) m
    have hnone : ∀ x, σ r = some x → x = .slice (some ⟨g, o1, none⟩) es.length cr := fun x hx => by rw [hσ] at hx; injection hx with hx; exact hx.symm
    have hsp := sput_id hσ
    have hbk : (σ r).bind blkOf = some g := by rw [hσ]; rfl
    have hkeep : ∀ b, b < w.heap.size → blkOf (.slice (some ⟨g, o1, none⟩) es.length cr) ≠ some b → (w.freeze ⟨g, o1 + i, none⟩ m).heap[b]? = w.heap[b]? := fun b _ hne => freeze_keep w g _ m b (fun e => hne (by rw [e]; rfl))
    have hsat := hs.upd (w' := w.freeze ⟨g, o1 + i, none⟩ m) (k := r) (o' := .dead) (hs.dom _ _ hσ) hnone (by rw [f4]; exact Nat.le_refl _) hkeep (fun b hb => by
        simp only [blkOf, Option.some.injEq] at hb; subst hb
        exact ⟨hs.sep r _ g hg rfl hbk, fun k o2 hk h2 h3 h4 => hk (hs.dj k r o2 _ g h2 hg h3 rfl h4 hbk)⟩)
      (by rw [hsp]; show (σ r).isSome = true; rw [hσ]; rfl) (fun j o b h1 h2 h3 => hs.lt h1 h2 h3) (fun A n c e => hs.sl r A n c (by rw [hσ, e]))
    have hext := Ext.upd (w' := w.freeze ⟨g, o1 + i, none⟩ m) (k := r) (o' := .dead) hs hnone f1 f2 f3 (by rw [f4]; exact Nat.le_refl _) hkeep (fun b hb => by
        simp only [blkOf, Option.some.injEq] at hb; subst hb; exact .inl ⟨r, _, hg, rfl, hbk⟩)
    rw [hsp] at hsat hext
    exact ⟨_, _, σ, hexec, .inl ⟨_, rfl, .data _ _ (.p _ rfl)⟩, hsat, hext, fun _ _ => rfl⟩
  | ust_nil =>
    obtain ⟨v1, v2, e1, q1, q2⟩ := hr.two_inv
    simp only [List.cons.injEq, and_true] at e1
    obtain ⟨rfl, rfl⟩ := e1
    have hrun := Lib.run_unsafeString_none (P := P) w pt it o.type none
    refine ⟨_, w, σ, ?_, .inl ⟨_, rfl, .data _ _ (.p _ rfl)⟩, hs, Ext.refl _ _ _ _, fun _ _ => rfl⟩
    simp [execOp, ho, resolve, hcb, hca', hct', invoke, builtin, q1.p_inv.1, q2.p_inv.1, hrun]
/-- an operation that writes -/
theorem wr_sound {o : Oper} {wo : WO} {xs : List Operand} {args : List AV} {a : AV} {id : Nat} {H' : AH} (hs : Sat P w S σ H) (hid : id < H.nx ∧ σ id = none) (hc : clsW P o.op = some (wo, xs)) (hp : WrR P id wo args H a H') (hr : Rps w S σ args (xs.map ev)) : Eff P w S σ H ev o id a H' := by
  cases ho : o.op <;> rw [ho] at hc <;> simp only [clsW] at hc <;> try (cases hc; done)
  case store t x v =>
    cases hi : P.info? t with
    | none => rw [hi] at hc; cases hc
    | some j =>
      rw [hi] at hc
      simp only [Option.map_some, Option.some.injEq, Prod.mk.injEq] at hc
      obtain ⟨rfl, rfl⟩ := hc
      exact wr_store hs ho hi hp hr
  case mapUpdate t m k v =>
    revert hc
    split
    · rename_i kt ve hu
      intro hc
      simp only [Option.some.injEq, Prod.mk.injEq] at hc
      obtain ⟨rfl, rfl⟩ := hc
      exact wr_mset hs (.inl ho) hu hp hr
    · intro hc; cases hc
  case insert t m k v =>
    revert hc
    split
    · rename_i kt ve hu
      intro hc
      simp only [Option.some.injEq, Prod.mk.injEq] at hc
      obtain ⟨rfl, rfl⟩ := hc
      exact wr_mset hs (.inr ho) hu hp hr
    · intro hc; cases hc
  case call c =>
    revert hc
    split
    · rename_i s x t t' hcb hca hct
      split
      · rename_i e hu
        split
        · rename_i z j hz hi
          split
          · split
            · intro hc; cases hc
            · rename_i hcond
              simp only [not_or, ne_eq, Decidable.not_not] at hcond
              obtain ⟨c2, c3⟩ := hcond
              split
              · rename_i k' hu'
                intro hc
                simp only [Option.some.injEq, Prod.mk.injEq] at hc
                obtain ⟨rfl, rfl⟩ := hc
                exact wr_apz hs hid.1 hid.2 ho hcb hca hct hu hu' hz hi c3 c2 hp hr
              · rename_i hu'
                split
                · rename_i hj1
                  intro hc
                  simp only [Option.some.injEq, Prod.mk.injEq] at hc
                  obtain ⟨rfl, rfl⟩ := hc
                  exact wr_aps hs hid.1 hid.2 ho hcb hca hct hu hu' hj1 hz hi c3 c2 hp hr
                · intro hc; cases hc
              · intro hc; cases hc
          · rename_i hcond
            simp only [not_or, ne_eq, Decidable.not_not] at hcond
            obtain ⟨rfl, c2, c3⟩ := hcond
            intro hc
            simp only [Option.some.injEq, Prod.mk.injEq] at hc
            obtain ⟨rfl, rfl⟩ := hc
            exact wr_app hs hid.1 hid.2 ho hcb hca hct hu hz hi c3 c2 hp hr
        · intro hc; cases hc
      · intro hc; cases hc
    · rename_i s t hcb hca hct
      split
      · rename_i e hu
        split
        · rename_i z j hz hi
          split
          · intro hc; cases hc
          · rename_i hcond
            simp only [not_or, ne_eq, Decidable.not_not] at hcond
            obtain ⟨c2, c3⟩ := hcond
            intro hc
            simp only [Option.some.injEq, Prod.mk.injEq] at hc
            obtain ⟨rfl, rfl⟩ := hc
            exact wr_clr hs ho hcb hca hct hu hz hi c3 c2 hp hr
        · intro hc; cases hc
      · intro hc; cases hc
    · rename_i p n pt it hcb hca hct
      split
      · rename_i e hu
        split
        · rename_i hce
          intro hc
          simp only [Option.some.injEq, Prod.mk.injEq] at hc
          obtain ⟨rfl, rfl⟩ := hc
          exact wr_ust hs ho hcb hca hct hu hce hp hr
        · intro hc; cases hc
      · intro hc; cases hc
    · intro hc; cases hc
end
end Go.Proofs.Ytgkkilbeingleaa
