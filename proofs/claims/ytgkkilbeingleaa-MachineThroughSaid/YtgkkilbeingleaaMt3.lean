/- Texts that the proof rests on, part 3: what each holds stands at its head. -/
import Derived.Test.YtgkkilbeingleaaMt2
import Derived.ChangeKeysEq
import Derived.Lib.UnsafeStr

/- Operations that touch no memory: what the model does is what the abstract rules say. Nothing of the program is named here. -/
namespace Go.Proofs.Ytgkkilbeingleaa
open Go.RowKit

section
variable {P : Program} {w : World} {S : Nat → Prop} {σ : Nat → Option Value} {ev : Operand → Value}
theorem Rps.one_inv {a : AV} {vs : List Value} (h : Rps w S σ [a] vs) : ∃ v, vs = [v] ∧ Rp w S σ a v := by
  obtain ⟨v, r, rfl, h1, h2⟩ := h.uncons
  obtain rfl := h2.nil_inv
  exact ⟨v, rfl, h1⟩
theorem Rps.two_inv {a b : AV} {vs : List Value} (h : Rps w S σ [a, b] vs) : ∃ v u, vs = [v, u] ∧ Rp w S σ a v ∧ Rp w S σ b u := by
  obtain ⟨v, r, rfl, h1, h2⟩ := h.uncons
  obtain ⟨u, rfl, h3⟩ := h2.one_inv
  exact ⟨v, u, rfl, h1, h3⟩
theorem Rps.three_inv {a b c : AV} {vs : List Value} (h : Rps w S σ [a, b, c] vs) : ∃ v u x, vs = [v, u, x] ∧ Rp w S σ a v ∧ Rp w S σ b u ∧ Rp w S σ c x := by
  obtain ⟨v, r, rfl, h1, h2⟩ := h.uncons
  obtain ⟨u, x, rfl, h3, h4⟩ := h2.two_inv
  exact ⟨v, u, x, rfl, h1, h3, h4⟩
theorem Rps.drop {cs : List AV} {vs : List Value} (h : Rps w S σ cs vs) (n : Nat) : Rps w S σ (cs.drop n) (vs.drop n) :=
  ⟨by rw [List.length_drop, List.length_drop, h.1], fun i a v ha hv => h.2 (n + i) a v (by rw [List.getElem?_drop] at ha; exact ha) (by rw [List.getElem?_drop] at hv; exact hv)⟩
theorem Rps.take {cs : List AV} {vs : List Value} (h : Rps w S σ cs vs) (n : Nat) : Rps w S σ (cs.take n) (vs.take n) := by
  refine ⟨by rw [List.length_take, List.length_take, h.1], fun i a v ha hv => ?_⟩
  rw [List.getElem?_take] at ha hv
  split at ha
  · rename_i hi; rw [if_pos hi] at hv; exact h.2 i a v ha hv
  · cases ha
theorem Rps.set {cs : List AV} {vs : List Value} (h : Rps w S σ cs vs) {a : AV} {v : Value} (ha : Rp w S σ a v) (n : Nat) : Rps w S σ (cs.set n a) (vs.set n v) := by
  refine ⟨by rw [List.length_set, List.length_set, h.1], fun i b u hb hu => ?_⟩
  by_cases hi : n = i
  · subst hi
    rw [List.getElem?_set] at hb hu
    rw [if_pos rfl] at hb hu
    split at hb
    · split at hu
      · injection hb with hb; injection hu with hu; subst hb; subst hu; exact ha
      · cases hu
    · cases hb
  · rw [List.getElem?_set_ne hi] at hb hu; exact h.2 i b u hb hu
theorem Rps.at_ {cs : List AV} {vs : List Value} (h : Rps w S σ cs vs) {i : Nat} {a : AV} (ha : cs[i]? = some a) : ∃ v, vs[i]? = some v ∧ Rp w S σ a v := by
  have hi : i < vs.length := by rw [← h.1]; exact (List.getElem?_eq_some_iff.1 ha).1
  exact ⟨_, List.getElem?_eq_getElem hi, h.2 i a _ ha (List.getElem?_eq_getElem hi)⟩
theorem addr_add (g o n : Nat) : Addr.add ⟨g, o, none⟩ n = ⟨g, o + n, none⟩ := by
  unfold Addr.add
  split
  · rename_i h; subst h; rfl
  · rfl
theorem mem_drop {vs : List Value} {n : Nat} (h : ∀ u ∈ vs, u.oneCell' = true) : ∀ u ∈ vs.drop n, u.oneCell' = true := fun u hu => h u (List.mem_of_mem_drop hu)
theorem mem_take {vs : List Value} {n : Nat} (h : ∀ u ∈ vs, u.oneCell' = true) : ∀ u ∈ vs.take n, u.oneCell' = true := fun u hu => h u (List.mem_of_mem_take hu)

def Val1 (P : Program) (w : World) (S : Nat → Prop) (σ : Nat → Option Value) (ev : Operand → Value) (o : Oper) (a : AV) : Prop := ∃ v, (execOp ev o).run P w = .ok (.value v) w ∧ Rp w S σ a v

theorem pu_mv {o : Oper} {x : Operand} {a : AV} {args : List AV} (ho : o.op = .move x ∨ o.op = .assign x) (hp : PuR P .mv args a) (hr : Rps w S σ args [ev x]) : Val1 P w S σ ev o a := by
  cases hp
  obtain ⟨v, e, h⟩ := hr.one_inv
  injection e with e; subst e
  refine ⟨_, ?_, h⟩
  rcases ho with ho | ho <;> simp [execOp, ho, pure, Sem.run]
theorem pu_pick {o : Oper} {x y z : Operand} {a : AV} {args : List AV} (ho : o.op = .pick x y z) (hp : PuR P .pick args a) (hr : Rps w S σ args [ev x, ev y, ev z]) : Val1 P w S σ ev o a := by
  cases hp with
  | pick c a b =>
    obtain ⟨v, u, r, e, h1, h2, h3⟩ := hr.three_inv
    simp only [List.cons.injEq, and_true] at e
    obtain ⟨rfl, rfl, rfl⟩ := e
    obtain ⟨hx, _⟩ := h1.p_inv
    refine ⟨if c then ev y else ev z, ?_, by cases c; exact h3; exact h2⟩
    cases c <;> go_simp <;> simp [execOp, ho, hx, asBool, pure, Sem.run, bind, Sem.bind]
theorem pu_nilck {o : Oper} {x : Operand} {a : AV} {args : List AV} (ho : o.op = .nilCheck x) (hp : PuR P .nilck args a) (hr : Rps w S σ args [ev x]) : Val1 P w S σ ev o a := by
  cases hp
  all_goals
    obtain ⟨v, e, h⟩ := hr.one_inv
    injection e with e; subst e
    refine ⟨ev x, ?_, h⟩
  · obtain ⟨g, hx, _⟩ := h.ptr_inv
    simp [execOp, ho, hx, pure, Sem.run]
  · obtain ⟨g, o1, n, c, hx, _⟩ := h.eptr_inv
    simp [execOp, ho, hx, pure, Sem.run]
  · obtain ⟨g, o1, c, hx, _⟩ := h.dptr_inv
    simp [execOp, ho, hx, pure, Sem.run]
  · obtain ⟨fs, cs, hx, _⟩ := h.fn_inv
    simp [execOp, ho, hx, pure, Sem.run]
theorem pu_addOff {o : Oper} {t : TypeId} {x : Operand} {f : Nat} {fields : Array Field} {fd : Field} {i : TypeInfo} {a : AV} {args : List AV} (ho : o.op = .fieldAddr t x f)
    (h1 : P.underlying t = some (.struct fields)) (h2 : fields[f]? = some fd) (h3 : P.info? fd.type = some i) (h4 : i.size ≠ 0) (hp : PuR P (.addOff fd.offset) args a) (hr : Rps w S σ args [ev x]) : Val1 P w S σ ev o a := by
  have run : ∀ g off, ev x = .pointer (some ⟨g, off, none⟩) → (execOp ev o).run P w = .ok (.value (.pointer (some ⟨g, off + fd.offset, none⟩))) w := by
    intro g off hx
    simp [execOp, ho, Instr.fieldAt, run_underlying h1, h2, hx, Instr.sureAddr, fieldPlace, sizeOf, typeInfo, h3, h4, addr_add]
  cases hp
  all_goals
    obtain ⟨v, e, h⟩ := hr.one_inv
    injection e with e; subst e
  · obtain ⟨g, hx, hs⟩ := h.ptr_inv
    exact ⟨_, run _ _ hx, .ptr _ _ g hs⟩
  · obtain ⟨g, o1, n, c, hx, hs⟩ := h.eptr_inv
    refine ⟨_, run _ _ hx, ?_⟩
    rw [Nat.add_assoc]
    exact .eptr _ _ _ _ g o1 n c hs
  · obtain ⟨g, o1, c, hx, hs, hi⟩ := h.dptr_inv
    refine ⟨_, run _ _ hx, ?_⟩
    rw [Nat.add_assoc]
    exact .dptr _ _ _ _ g o1 c hs hi
theorem pu_idx {o : Oper} {t e : TypeId} {x y : Operand} {j : TypeInfo} {a : AV} {args : List AV} (ho : o.op = .indexAddr t x y)
    (h1 : P.underlying t = some (.slice e)) (h3 : P.info? e = some j) (hp : PuR P (.idx j.size) args a) (hr : Rps w S σ args [ev x, ev y]) (hsz : ∀ id A n c, σ id = some (.slice A n c) → n ≤ c ∧ (0 < c → ∃ g o, A = some ⟨g, o, none⟩)) : Val1 P w S σ ev o a := by
  cases hp with
  | idx_dsl sz xs k i hpos hi0 hi1 =>
    obtain ⟨v, u, e, q1, q2⟩ := hr.two_inv
    simp only [List.cons.injEq, and_true] at e
    obtain ⟨rfl, rfl⟩ := e
    obtain ⟨hy, _⟩ := q2.p_inv
    have hD := q1.dsl_inv
    obtain ⟨A, c, z, hx, r1, r2, r3, r4, r5, r6⟩ := hD.dsl_inv
    have hlt : i.toNat < xs.length := by omega
    have hel := r3 _ (List.getElem_mem hlt)
    obtain ⟨g, off, rfl, _, _⟩ := r4 i.toNat _ 0 _ (List.getElem?_eq_getElem hlt) (List.getElem?_eq_getElem (by omega))
    refine ⟨.pointer (some ⟨g, off + i.toNat * j.size + 0, none⟩), ?_, .dptr _ _ _ _ g off c (by rw [← hx]; exact hD) hlt⟩
    have hlt' : i < (xs.length : Int) := hi1
    simp [execOp, ho, Instr.indexAt, run_underlying h1, hx, hy, asIntOf, hi0, hlt', sizeOf, typeInfo, h3, addr_add]
  | idx_osl sz id off n k i hi0 hi1 =>
    obtain ⟨v, u, e, q1, q2⟩ := hr.two_inv
    simp only [List.cons.injEq, and_true] at e
    obtain ⟨rfl, rfl⟩ := e
    obtain ⟨hy, _⟩ := q2.p_inv
    obtain ⟨A, B, N, c, cc, hx, hs, hle, hoc, hB⟩ := q1.osl_inv
    obtain ⟨hN, hNc⟩ := hsz id A N c hs
    obtain ⟨g, o1, rfl⟩ := hNc (by omega)
    obtain rfl := hB (by omega)
    rw [Option.map_some, addr_add] at hx
    refine ⟨.pointer (some ⟨g, o1 + (off + i.toNat) * j.size + 0, none⟩), ?_, .eptr _ _ _ _ g o1 N c hs⟩
    have hlt' : i < (n : Int) := hi1
    simp [execOp, ho, Instr.indexAt, run_underlying h1, hx, hy, asIntOf, hi0, hlt', sizeOf, typeInfo, h3, addr_add, Nat.add_mul, Nat.add_assoc]
theorem pu_aidx {o : Oper} {t e : TypeId} {m : Nat} {x y : Operand} {j : TypeInfo} {a : AV} {args : List AV} (ho : o.op = .indexAddr t x y)
    (h1 : P.underlying t = some (.array m e)) (h3 : P.info? e = some j) (hp : PuR P (.aidx m j.size) args a) (hr : Rps w S σ args [ev x, ev y]) : Val1 P w S σ ev o a := by
  have run : ∀ g off k (i : Int), ev x = .pointer (some ⟨g, off, none⟩) → ev y = .int k i → 0 ≤ i → i < (m : Int) → (execOp ev o).run P w = .ok (.value (.pointer (some ⟨g, off + i.toNat * j.size, none⟩))) w := by
    intro g off k i hx hy h0 h2
    simp [execOp, ho, Instr.indexAt, run_underlying h1, hx, hy, asIntOf, h0, h2, sizeOf, typeInfo, h3, addr_add, Instr.sureAddr]
  cases hp
  all_goals
    obtain ⟨v, u, e, q1, q2⟩ := hr.two_inv
    simp only [List.cons.injEq, and_true] at e
    obtain ⟨rfl, rfl⟩ := e
    obtain ⟨hy, _⟩ := q2.p_inv
  · obtain ⟨g, hx, hs⟩ := q1.ptr_inv
    exact ⟨_, run _ _ _ _ hx hy ‹_› ‹_›, .ptr _ _ g hs⟩
  · obtain ⟨g, o1, n, c, hx, hs⟩ := q1.eptr_inv
    refine ⟨_, run _ _ _ _ hx hy ‹_› ‹_›, ?_⟩
    rw [Nat.add_assoc]
    exact .eptr _ _ _ _ g o1 n c hs
  · obtain ⟨g, o1, c, hx, hs, hi⟩ := q1.dptr_inv
    refine ⟨_, run _ _ _ _ hx hy ‹_› ‹_›, ?_⟩
    rw [Nat.add_assoc]
    exact .dptr _ _ _ _ g o1 c hs hi
theorem run_isAggB {t : TypeId} {b : Bool} (h : aggB P t = some b) : (isAgg t).run P w = .ok b w := by
  unfold aggB at h
  cases hu : P.underlying t with
  | none => rw [hu] at h; cases h
  | some d =>
    rw [hu] at h
    cases d <;> simp only [Option.some.injEq] at h <;> subst h <;> simp [isAgg, run_underlying hu]
theorem pu_fld {o : Oper} {t : TypeId} {x : Operand} {f : Nat} {fields : Array Field} {fd : Field} {j : TypeInfo} {b : Bool} {a : AV} {args : List AV} (ho : o.op = .field t x f)
    (h1 : P.underlying t = some (.struct fields)) (h2 : fields[f]? = some fd) (h3 : aggB P fd.type = some b) (h4 : P.info? fd.type = some j) (hp : PuR P (.fld fd.offset j.size b) args a) (hr : Rps w S σ args [ev x]) : Val1 P w S σ ev o a := by
  have hag := run_isAggB (w := w) h3
  cases hp with
  | fld_agg off n cs hle =>
    obtain ⟨v, e, h⟩ := hr.one_inv
    injection e with e; subst e
    obtain ⟨vs, hx, hv, hv1⟩ := h.agg_inv
    refine ⟨.agg (vs.extract fd.offset (fd.offset + j.size)), ?_, ?_⟩
    · simp [execOp, ho, Instr.field, run_underlying h1, h2, hx, asAgg, part, hag, sizeOf, typeInfo, h4]
    · refine Rps.agg ?_ (fun u hu => hv1 u (by have h1 := Array.mem_toList_iff.2 hu; rw [Array.toList_extract] at h1; simp only [List.extract] at h1; exact Array.mem_toList_iff.1 (List.mem_of_mem_drop (List.mem_of_mem_take h1))))
      have : (vs.extract fd.offset (fd.offset + j.size)).toList = (vs.toList.drop fd.offset).take j.size := by
        rw [Array.toList_extract]; simp [List.extract]
      rw [this]
      exact (hv.drop _).take _
  | fld_one off n cs a ha =>
    obtain ⟨v, e, h⟩ := hr.one_inv
    injection e with e; subst e
    obtain ⟨vs, hx, hv, hv1⟩ := h.agg_inv
    obtain ⟨u, hu, hau⟩ := hv.at_ ha
    refine ⟨u, ?_, hau⟩
    rw [Array.getElem?_toList] at hu
    simp [execOp, ho, Instr.field, run_underlying h1, h2, hx, asAgg, part, hag, hu]
theorem pu_vidx {o : Oper} {t e : TypeId} {x y : Operand} {n : Nat} {j : TypeInfo} {b : Bool} {a : AV} {args : List AV} (ho : o.op = .index t x y)
    (h1 : P.underlying t = some (.array n e)) (h3 : aggB P e = some b) (h4 : P.info? e = some j) (hp : PuR P (.vidx n j.size b) args a) (hr : Rps w S σ args [ev x, ev y]) : Val1 P w S σ ev o a := by
  have hag := run_isAggB (w := w) h3
  cases hp with
  | vidx_agg _ _ k i cs i0 i1 hle =>
    obtain ⟨v, u, e, h, h'⟩ := hr.two_inv
    simp only [List.cons.injEq, and_true] at e
    obtain ⟨rfl, rfl⟩ := e
    obtain ⟨vs, hx, hv, hv1⟩ := h.agg_inv
    have hy := h'.p_inv.1
    refine ⟨.agg (vs.extract (i.toNat * j.size) (i.toNat * j.size + j.size)), ?_, ?_⟩
    · simp [execOp, ho, Instr.index, run_underlying h1, hx, hy, asIntOf, i0, i1, part, hag, sizeOf, typeInfo, h4]
    · refine Rps.agg ?_ (fun u hu => hv1 u (by have h1 := Array.mem_toList_iff.2 hu; rw [Array.toList_extract] at h1; simp only [List.extract] at h1; exact Array.mem_toList_iff.1 (List.mem_of_mem_drop (List.mem_of_mem_take h1))))
      have : (vs.extract (i.toNat * j.size) (i.toNat * j.size + j.size)).toList = (vs.toList.drop (i.toNat * j.size)).take j.size := by
        rw [Array.toList_extract]; simp [List.extract]
      rw [this]
      exact (hv.drop _).take _
  | vidx_one _ _ k i cs a i0 i1 ha =>
    obtain ⟨v, u, e, h, h'⟩ := hr.two_inv
    simp only [List.cons.injEq, and_true] at e
    obtain ⟨rfl, rfl⟩ := e
    obtain ⟨vs, hx, hv, hv1⟩ := h.agg_inv
    have hy := h'.p_inv.1
    obtain ⟨u, hu, hau⟩ := hv.at_ ha
    refine ⟨u, ?_, hau⟩
    rw [Array.getElem?_toList] at hu
    simp [execOp, ho, Instr.index, run_underlying h1, hx, hy, asIntOf, i0, i1, part, hag, sizeOf, typeInfo, h4, hu]
theorem pu_ext {o : Oper} {x : Operand} {i : Nat} {a : AV} {args : List AV} (ho : o.op = .extract x i) (hp : PuR P (.ext i) args a) (hr : Rps w S σ args [ev x]) : Val1 P w S σ ev o a := by
  cases hp with
  | ext _ cs a ha =>
    obtain ⟨v, e, h⟩ := hr.one_inv
    injection e with e; subst e
    obtain ⟨vs, hx, hv⟩ := h.tup_inv
    obtain ⟨u, hu, hau⟩ := hv.at_ ha
    refine ⟨u, ?_, hau⟩
    rw [Array.getElem?_toList] at hu
    simp [execOp, ho, Instr.extract, hx, hu]
theorem int_beq (a b : Int) : (a == b) = decide (a = b) := by by_cases h : a = b <;> simp [h]
theorem run_equal_bool {t : TypeId} (h : P.underlying t = some .bool) (x y : Bool) : (Op.equal t (.bool x) (.bool y)).run P w = .ok (x == y) w := by
  rw [Op.equal, Op.maxDepth, show (10000 : Nat) = 9999 + 1 from rfl, Op.equalIn]
  simp [run_underlying h]
theorem run_equal_nil {t e : TypeId} (h : P.underlying t = some (.slice e)) (A : Option Addr) (n c : Nat) : (Op.equal t (.slice A n c) (.slice none 0 0)).run P w = .ok A.isNone w := by
  rw [Op.equal, Op.maxDepth, show (10000 : Nat) = 9999 + 1 from rfl, Op.equalIn]
  cases A <;> simp [run_underlying h]
theorem eqGuard_agg {op : BinOp} {t : TypeId} {x y : Operand} {us vs : Array Value} (h : P.eqGuardType P.depth t = false) : (eqGuard op t x y (.agg us) (.agg vs)).run P w = .ok () w := by
  unfold eqGuard
  split <;> simp [h]
theorem vals_sound : ∀ {cs : List AV} {l vs : List Value}, vals cs = some l → Rps w S σ cs vs → vs = l
  | [], l, vs, h, hr => by simp only [vals, Option.some.injEq] at h; subst h; exact hr.nil_inv
  | a :: r, l, vs, h, hr => by
    cases a <;> simp only [vals] at h <;> try (cases h; done)
    rename_i v
    cases h1 : vals r with
    | none => rw [h1] at h; cases h
    | some l' =>
      rw [h1] at h
      simp only [Option.some.injEq] at h
      subst h
      obtain ⟨u, us, rfl, q1, q2⟩ := hr.uncons
      rw [q1.p_inv.1, vals_sound h1 q2]
theorem AV.val_sound {a : AV} {u v : Value} (h : a.val = some u) (hr : Rp w S σ a v) : v = u := by
  cases a <;> simp only [AV.val] at h <;> try (cases h; done)
  · injection h with h; subst h; exact hr.p_inv.1
  · rename_i cs
    cases h1 : vals cs with
    | none => rw [h1] at h; cases h
    | some l =>
      rw [h1] at h
      simp only [Option.some.injEq] at h
      subst h
      obtain ⟨vs, rfl, q, _⟩ := hr.agg_inv
      rw [← vals_sound h1 q, Array.toArray_toList]
theorem pu_bin {o : Oper} {op : BinOp} {t ty : TypeId} {x y : Operand} {a : AV} {args : List AV} (ho : o.op = .binOp op t x y ty) (hp : PuR P (.bin op t) args a) (hr : Rps w S σ args [ev x, ev y]) (hsz : ∀ id A n c, σ id = some (.slice A n c) → n ≤ c ∧ (0 < c → ∃ g o, A = some ⟨g, o, none⟩)) : Val1 P w S σ ev o a := by
  have key : ∀ v u r, ev x = v → ev y = u → (eqGuard op t x y v u).run P w = .ok () w → (binOp op t v u).run P w = .ok r w → (execOp ev o).run P w = .ok (.value r) w := by
    intro v u r hx hy h1 h2
    simp [execOp, ho, hx, hy, h1, h2]
  cases hp
  all_goals
    obtain ⟨v, u, e, q1, q2⟩ := hr.two_inv
    simp only [List.cons.injEq, and_true] at e
    obtain ⟨rfl, rfl⟩ := e
  case eql_v us vs r hu hv hg he => exact ⟨_, key _ _ _ (AV.val_sound hu q1) (AV.val_sound hv q2) (eqGuard_agg hg) (by simp [binOp, he]), .data _ _ (.p _ rfl)⟩
  case neq_v us vs r hu hv hg he => exact ⟨_, key _ _ _ (AV.val_sound hu q1) (AV.val_sound hv q2) (eqGuard_agg hg) (by simp [binOp, he]), .data _ _ (.p _ rfl)⟩
  case eqnil_dsl =>
    rename_i e sz xs hn' hsz0' hu'
    have hu : P.underlying t = some (.slice e) := by assumption
    have hn : 0 < xs.length := by assumption
    have hsz0 : 0 < sz := by assumption
    obtain ⟨A, c, z, hv, r1, r2, r3, r4, _⟩ := q1.dsl_inv.dsl_inv
    obtain ⟨e0, he0⟩ : ∃ e0, xs[0]? = some e0 := ⟨_, List.getElem?_eq_getElem hn⟩
    have hl0 := r3 e0 (List.mem_of_getElem? he0)
    obtain ⟨a0, ha0⟩ : ∃ a0, e0[0]? = some a0 := ⟨_, List.getElem?_eq_getElem (by omega)⟩
    obtain ⟨g, o', hA, _⟩ := r4 0 e0 0 a0 he0 ha0
    subst hA
    exact ⟨_, key _ _ _ hv q2.p_inv.1 (by simp [eqGuard]) (by simp [binOp, run_equal_nil hu]), .data _ _ (.p _ rfl)⟩
  case nenil_dsl =>
    rename_i e sz xs hn' hsz0' hu'
    have hu : P.underlying t = some (.slice e) := by assumption
    have hn : 0 < xs.length := by assumption
    have hsz0 : 0 < sz := by assumption
    obtain ⟨A, c, z, hv, r1, r2, r3, r4, _⟩ := q1.dsl_inv.dsl_inv
    obtain ⟨e0, he0⟩ : ∃ e0, xs[0]? = some e0 := ⟨_, List.getElem?_eq_getElem hn⟩
    have hl0 := r3 e0 (List.mem_of_getElem? he0)
    obtain ⟨a0, ha0⟩ : ∃ a0, e0[0]? = some a0 := ⟨_, List.getElem?_eq_getElem (by omega)⟩
    obtain ⟨g, o', hA, _⟩ := r4 0 e0 0 a0 he0 ha0
    subst hA
    exact ⟨_, key _ _ _ hv q2.p_inv.1 (by simp [eqGuard]) (by simp [binOp, run_equal_nil hu]), .data _ _ (.p _ rfl)⟩
  case eqnil_osl =>
    rename_i e id sz off n hn' hu'
    have hu : P.underlying t = some (.slice e) := by assumption
    have hn : 0 < n := by assumption
    obtain ⟨A, B, N, c, cc, hv, hsg, hle, hoc, hB⟩ := q1.osl_inv
    obtain ⟨g, o', hA⟩ := (hsz _ _ _ _ hsg).2 (by omega)
    subst hA
    have hBs := hB (by omega)
    rw [Option.map_some] at hBs
    subst hBs
    exact ⟨_, key _ _ _ hv q2.p_inv.1 (by simp [eqGuard]) (by simp [binOp, run_equal_nil hu]), .data _ _ (.p _ rfl)⟩
  case nenil_osl =>
    rename_i e id sz off n hn' hu'
    have hu : P.underlying t = some (.slice e) := by assumption
    have hn : 0 < n := by assumption
    obtain ⟨A, B, N, c, cc, hv, hsg, hle, hoc, hB⟩ := q1.osl_inv
    obtain ⟨g, o', hA⟩ := (hsz _ _ _ _ hsg).2 (by omega)
    subst hA
    have hBs := hB (by omega)
    rw [Option.map_some] at hBs
    subst hBs
    exact ⟨_, key _ _ _ hv q2.p_inv.1 (by simp [eqGuard]) (by simp [binOp, run_equal_nil hu]), .data _ _ (.p _ rfl)⟩
  all_goals
    have hx := q1.p_inv.1
    have hy := q2.p_inv.1
    refine ⟨_, key _ _ _ hx hy (by simp [eqGuard]) ?_, .data _ _ (.p _ rfl)⟩
    clear hr q1 q2 key hx hy
  case add_s hm =>
    simp only [binOp, Op.stringOp]
    rw [if_neg (by unfold maxLen at hm; simp [IntKind.max, IntKind.signed, IntKind.bits]; omega)]
    rfl
  case eqnil_p h => simp [binOp, run_equal_nil h]
  case nenil_p h => simp [binOp, run_equal_nil h]
  case eql_b _ _ h => simp [binOp, run_equal_bool h]
  case neq_b _ _ h => simp [binOp, run_equal_bool h]
  case eql_i a b => simp only [binOp, ne_eq, not_true_eq_false, if_false, Op.intCmp, int_beq]; rfl
  case neq_i a b => simp only [binOp, ne_eq, not_true_eq_false, if_false, Op.intCmp, bne, int_beq, decide_not]; rfl
  case shl_i h e => subst e; simp [binOp, Op.shift, Int.not_lt.2 h]
  case shr_i h e => subst e; simp [binOp, Op.shift, Int.not_lt.2 h]
  all_goals
    subst_vars
    first
    | rfl
    | (simp [binOp, Op.intArith, Op.intDiv, Op.intBits, Op.intCmp, Op.shift, Op.stringOp, *]; done)
    | skip
theorem pu_un {o : Oper} {op : UnOp} {t : TypeId} {x : Operand} {a : AV} {args : List AV} (ho : o.op = .unOp op t x) (hp : PuR P (.un op) args a) (hr : Rps w S σ args [ev x]) : Val1 P w S σ ev o a := by
  cases hp
  all_goals
    obtain ⟨v, e, h⟩ := hr.one_inv
    injection e with e; subst e
    have hx := h.p_inv.1
    refine ⟨_, ?_, .data _ _ (.p _ rfl)⟩
    subst_vars
    simp [execOp, ho, hx, Op.unary, Op.intArith]
theorem pu_conv {o : Oper} {s d : TypeId} {x : Operand} {k k0 : IntKind} {a : AV} {args : List AV} (ho : o.op = .convert s d x) (h1 : P.underlying s = some (.int k0)) (h2 : P.underlying d = some (.int k)) (hp : PuR P (.conv k) args a) (hr : Rps w S σ args [ev x]) : Val1 P w S σ ev o a := by
  cases hp
  obtain ⟨v, e, h⟩ := hr.one_inv
  injection e with e; subst e
  have hx := h.p_inv.1
  refine ⟨_, ?_, .data _ _ (.p _ rfl)⟩
  subst_vars
  simp [execOp, ho, hx, convert, run_underlying h1, run_underlying h2, Conv.intToInt]
theorem pu_same {o : Oper} {s d : TypeId} {x : Operand} {a : AV} {args : List AV} (ho : o.op = .convert s d x) (h1 : P.underlying s = some .string) (h2 : P.underlying d = some .string) (hp : PuR P .same args a) (hr : Rps w S σ args [ev x]) : Val1 P w S σ ev o a := by
  cases hp
  obtain ⟨v, e, h⟩ := hr.one_inv
  injection e with e; subst e
  have hx := h.p_inv.1
  refine ⟨_, ?_, .data _ _ (.p _ rfl)⟩
  subst_vars
  simp [execOp, ho, hx, convert, run_underlying h1, run_underlying h2]
theorem pu_len {o : Oper} {c : Call} {e : TypeId} {x : Operand} {ty : TypeId} {a : AV} {args : List AV} (ho : o.op = .call c) (hc : c.callee = .builtin .len) (h0 : c.argTypes[0]? = some ty) (h1 : P.underlying ty = some (.slice e)) (h2 : c.args.toList = [x])
    (hp : PuR P .len args a) (hr : Rps w S σ args [ev x]) : Val1 P w S σ ev o a := by
  have hx : c.args = #[x] := Array.toList_inj.1 h2
  have run : ∀ A n cc, ev x = .slice A n cc → (execOp ev o).run P w = .ok (.value (.int .i64 n)) w := by
    intro A n cc h
    simp [execOp, ho, resolve, hc, hx, invoke, builtin, Builtin.len_, h0, run_underlying h1, h, goInt]
  cases hp
  all_goals
    obtain ⟨v, e, h⟩ := hr.one_inv
    injection e with e; subst e
  · obtain ⟨A, cc, z, hv, _⟩ := h.dsl_inv.dsl_inv
    exact ⟨_, run _ _ _ hv, .data _ _ (.p _ rfl)⟩
  · obtain ⟨A, B, N, c, cc, hv, _⟩ := h.osl_inv
    exact ⟨_, run _ _ _ hv, .data _ _ (.p _ rfl)⟩
  · exact ⟨_, run _ _ _ h.p_inv.1, .data _ _ (.p _ rfl)⟩
theorem pu_cap {o : Oper} {c : Call} {e : TypeId} {x : Operand} {ty : TypeId} {a : AV} {args : List AV} (ho : o.op = .call c) (hc : c.callee = .builtin .cap) (h0 : c.argTypes[0]? = some ty) (h1 : P.underlying ty = some (.slice e)) (h2 : c.args.toList = [x])
    (hp : PuR P .cap args a) (hr : Rps w S σ args [ev x]) : Val1 P w S σ ev o a := by
  have hx : c.args = #[x] := Array.toList_inj.1 h2
  cases hp
  obtain ⟨v, e, h⟩ := hr.one_inv
  injection e with e; subst e
  refine ⟨_, ?_, .data _ _ (.p _ rfl)⟩
  simp [execOp, ho, resolve, hc, hx, invoke, builtin, Builtin.cap_, h0, run_underlying h1, h.p_inv.1, goInt]
theorem pu_sld {o : Oper} {c : Call} {e : TypeId} {x : Operand} {ty : TypeId} {j : TypeInfo} {a : AV} {args : List AV} (ho : o.op = .call c) (hc : c.callee = .builtin .unsafeSliceData) (h0 : c.argTypes[0]? = some ty) (h1 : P.underlying ty = some (.slice e)) (h2 : c.args.toList = [x])
    (hp : PuR P (.sld j.size) args a) (hr : Rps w S σ args [ev x]) (hsz : ∀ id A n c, σ id = some (.slice A n c) → n ≤ c ∧ (0 < c → ∃ g o, A = some ⟨g, o, none⟩)) : Val1 P w S σ ev o a := by
  have hx : c.args = #[x] := Array.toList_inj.1 h2
  cases hp with
  | sld_osl _ id off n h0 =>
    obtain ⟨v, e, h⟩ := hr.one_inv
    injection e with e; subst e
    obtain ⟨A, B, N, c', cc, hx', hs, hle, hoc, hB⟩ := h.osl_inv
    obtain ⟨hN, hNc⟩ := hsz id A N c' hs
    obtain ⟨g, o1, rfl⟩ := hNc (by omega)
    obtain rfl := hB (by omega)
    rw [Option.map_some, addr_add] at hx'
    have hcc : cc ≠ 0 := by omega
    refine ⟨.pointer (some ⟨g, o1 + off * j.size + 0, none⟩), ?_, .eptr _ _ _ _ g o1 N c' hs⟩
    simp [execOp, ho, resolve, hc, hx, invoke, builtin, hx', Lib.run_unsafeSliceData_row _ _ _ _ _ _ hcc]
  | sld_nil _ c' =>
    obtain ⟨v, e, h⟩ := hr.one_inv
    injection e with e; subst e
    refine ⟨_, ?_, .data _ _ (.p _ rfl)⟩
    simp [execOp, ho, resolve, hc, hx, invoke, builtin, h.p_inv.1, Lib.run_unsafeSliceData_nil]
theorem pu_mn {o : Oper} {c : Call} {x y : Operand} {a : AV} {args : List AV} (ho : o.op = .call c) (hc : c.callee = .builtin .min) (h2 : c.args.toList = [x, y])
    (hp : PuR P .mn args a) (hr : Rps w S σ args [ev x, ev y]) : Val1 P w S σ ev o a := by
  have hx : c.args = #[x, y] := Array.toList_inj.1 h2
  cases hp
  obtain ⟨v, u, e, h, k⟩ := hr.two_inv
  simp only [List.cons.injEq, and_true] at e
  obtain ⟨rfl, rfl⟩ := e
  refine ⟨_, ?_, .data _ _ (.p _ rfl)⟩
  simp [execOp, ho, resolve, hc, hx, invoke, builtin, Builtin.min_, Builtin.min2, h.p_inv.1, k.p_inv.1]
theorem pu_mx {o : Oper} {c : Call} {x y : Operand} {a : AV} {args : List AV} (ho : o.op = .call c) (hc : c.callee = .builtin .max) (h2 : c.args.toList = [x, y])
    (hp : PuR P .mx args a) (hr : Rps w S σ args [ev x, ev y]) : Val1 P w S σ ev o a := by
  have hx : c.args = #[x, y] := Array.toList_inj.1 h2
  cases hp
  obtain ⟨v, u, e, h, k⟩ := hr.two_inv
  simp only [List.cons.injEq, and_true] at e
  obtain ⟨rfl, rfl⟩ := e
  refine ⟨_, ?_, .data _ _ (.p _ rfl)⟩
  simp [execOp, ho, resolve, hc, hx, invoke, builtin, Builtin.max_, Builtin.max2, h.p_inv.1, k.p_inv.1]
theorem pu_slen {o : Oper} {c : Call} {x : Operand} {ty : TypeId} {a : AV} {args : List AV} (ho : o.op = .call c) (hc : c.callee = .builtin .len) (h0 : c.argTypes[0]? = some ty) (h1 : P.underlying ty = some .string) (h2 : c.args.toList = [x])
    (hp : PuR P .slen args a) (hr : Rps w S σ args [ev x]) : Val1 P w S σ ev o a := by
  have hx : c.args = #[x] := Array.toList_inj.1 h2
  cases hp
  obtain ⟨v, e, h⟩ := hr.one_inv
  injection e with e; subst e
  refine ⟨_, ?_, .data _ _ (.p _ rfl)⟩
  simp [execOp, ho, resolve, hc, hx, invoke, builtin, Builtin.len_, h0, run_underlying h1, h.p_inv.1, goInt]
theorem RpD.dsl_cut {sz : Nat} {xs : List (List AV)} {A : Option Addr} {n c : Nat} (h : RpD w S (.dsl sz xs) (.slice A n c)) (lo hi : Nat) (h1 : lo ≤ hi) (h2 : hi ≤ xs.length) :
    RpD w S (.dsl sz ((xs.drop lo).take (hi - lo))) (.slice (if c = lo then A else A.map (·.add (lo * sz))) (hi - lo) (c - lo)) := by
  obtain ⟨A', c', z, e, r1, r2, r3, r4, r5, r6⟩ := h.dsl_inv
  injection e with e1 e2 e3
  subst e1; subst e2; subst e3
  have hl : ((xs.drop lo).take (hi - lo)).length = hi - lo := by rw [List.length_take, List.length_drop]; omega
  have hel : ∀ (i : Nat) (e : List AV), ((xs.drop lo).take (hi - lo))[i]? = some e → i < hi - lo ∧ xs[lo + i]? = some e := by
    intro i e he
    rw [List.getElem?_take] at he
    split at he
    · rw [List.getElem?_drop] at he; exact ⟨‹_›, he⟩
    · cases he
  have := RpD.dsl (w := w) (S := S) sz ((xs.drop lo).take (hi - lo)) (if c = lo then A else A.map (·.add (lo * sz))) (c - lo) (fun i j => z (lo + i) j) (by rw [hl]; omega) (by omega) (fun e he => r3 e (List.mem_of_mem_drop (List.mem_of_mem_take he)))
    (fun i e j a he ha => by
      obtain ⟨hi', he'⟩ := hel i e he
      obtain ⟨g, o, rfl, hg, hc⟩ := r4 (lo + i) e j a he' ha
      rw [if_neg (by omega)]
      refine ⟨g, o + lo * sz, by simp [addr_add], hg, ?_⟩
      rw [show o + lo * sz + i * sz + j = o + (lo + i) * sz + j by rw [Nat.add_mul]; omega]
      exact hc)
    (fun i e j a he ha => r5 (lo + i) e j a (hel i e he).2 ha) (fun i j => r6 _ _)
  rwa [hl] at this
theorem run_slc {t e : TypeId} {j : TypeInfo} (h1 : P.underlying t = some (.slice e)) (h2 : P.info? e = some j) {A : Option Addr} {n c : Nat} (lo hi : Option Value) (l h : Nat) (hl : match lo with | none => l = 0 | some v => ∃ k, v = .int k l) (hh : match hi with | none => h = n | some v => ∃ k, v = .int k h) (hlh : l ≤ h) (hhc : h ≤ c) :
    (Instr.sliceAt t (.slice A n c) lo hi none).run P w = .ok (.slice (if c = l then A else A.map (·.add (l * j.size))) (h - l) (c - l)) w := by
  cases lo <;> cases hi <;> simp only at hl hh
  · subst hl; subst hh; simp [Instr.sliceAt, Instr.slice, Instr.sliceBounds, run_underlying h1, sizeOf, typeInfo, h2]
  · subst hl; obtain ⟨k, rfl⟩ := hh
    have : (h : Int) ≤ (c : Int) := by omega
    simp [Instr.sliceAt, Instr.slice, Instr.sliceBounds, Instr.sliceBound, asIntOf, run_underlying h1, sizeOf, typeInfo, h2, this, hlh, hhc]
  · obtain ⟨k, rfl⟩ := hl
    have : (l : Int) ≤ (h : Int) := by omega
    subst hh
    simp [Instr.sliceAt, Instr.slice, Instr.sliceBounds, Instr.sliceBound, asIntOf, run_underlying h1, sizeOf, typeInfo, h2, this, hlh, hhc]
  · obtain ⟨k, rfl⟩ := hl; obtain ⟨k', rfl⟩ := hh
    have a1 : (l : Int) ≤ (h : Int) := by omega
    have a2 : (h : Int) ≤ (c : Int) := by omega
    simp [Instr.sliceAt, Instr.slice, Instr.sliceBounds, Instr.sliceBound, asIntOf, run_underlying h1, sizeOf, typeInfo, h2, a1, a2, hlh, hhc]
theorem pu_slc {o : Oper} {t e : TypeId} {x : Operand} {lo hi : Option Operand} {j : TypeInfo} {a : AV} {args : List AV} (ho : o.op = .slice t x lo hi none) (h1 : P.underlying t = some (.slice e)) (h2 : P.info? e = some j) (hp : PuR P (.slc j.size lo.isSome hi.isSome) args a) (hr : Rps w S σ args ((x :: optL lo ++ optL hi).map ev)) : Val1 P w S σ ev o a := by
  have run : ∀ (xs : List (List AV)) (l h : Nat) (v : Value), ev x = v → RpD w S (.dsl j.size xs) v → (match lo.map ev with | none => l = 0 | some v => ∃ k, v = .int k l) → (match hi.map ev with | none => h = xs.length | some v => ∃ k, v = .int k h) → l ≤ h → h ≤ xs.length → Val1 P w S σ ev o (.dsl j.size ((xs.drop l).take (h - l))) := by
    intro xs l h v hx hD hl hh hlh hhx
    obtain ⟨A, c, z, rfl, r1, _⟩ := hD.dsl_inv
    refine ⟨_, ?_, .data _ _ (hD.dsl_cut l h hlh hhx)⟩
    have := run_slc (P := P) (w := w) h1 h2 (A := A) (n := xs.length) (c := c) (lo.map ev) (hi.map ev) l h hl hh hlh (by omega)
    simp [execOp, ho, hx, this]
  have own : ∀ (id off n l h : Nat) (v : Value), ev x = v → Rp w S σ (.osl id j.size off n) v → (match lo.map ev with | none => l = 0 | some v => ∃ k, v = .int k l) → (match hi.map ev with | none => h = n | some v => ∃ k, v = .int k h) → l ≤ h → h ≤ n → Val1 P w S σ ev o (.osl id j.size (off + l) (h - l)) := by
    intro id off n l h v hx hD hl hh hlh hhx
    obtain ⟨A, B, N, c, cc, rfl, hs, hle, hoc, hB⟩ := hD.osl_inv
    have := run_slc (P := P) (w := w) h1 h2 (A := B) (n := n) (c := cc) (lo.map ev) (hi.map ev) l h hl hh hlh (by omega)
    refine ⟨.slice (if cc = l then B else B.map (·.add (l * j.size))) (h - l) (cc - l), by simp [execOp, ho, hx, this], .osl _ _ _ _ A _ N c _ hs (by omega) (by omega) (fun hcc => ?_)⟩
    rw [if_neg (by omega), hB (by omega), Option.map_map]
    congr 1
    funext a
    show (a.add (off * j.size)).add (l * j.size) = _
    rw [add_of_add, Nat.add_mul]
  cases hlo : lo <;> cases hhi : hi <;> rw [hlo, hhi] at hp hr run own <;> simp only [Option.isSome] at hp <;> cases hp <;> simp only [optL, List.cons_append, List.nil_append, List.append_nil, List.map_cons, List.map_nil] at hr
  case slc_00 xs =>
    obtain ⟨v, e, h⟩ := hr.one_inv
    injection e with e; subst e
    have := run xs 0 xs.length _ rfl h.dsl_inv rfl rfl (by omega) (by omega)
    simpa using this
  case slo_00 id off n =>
    obtain ⟨v, e, h⟩ := hr.one_inv
    injection e with e; subst e
    exact own id off n 0 n _ rfl h rfl rfl (by omega) (by omega)
  case slc_nil k =>
    obtain ⟨v, u, e, q1, q2⟩ := hr.two_inv
    simp only [List.cons.injEq, and_true] at e
    obtain ⟨rfl, rfl⟩ := e
    have := run_slc (P := P) (w := w) h1 h2 (A := none) (n := 0) (c := 0) none (some (.int k 0)) 0 0 rfl ⟨k, rfl⟩ (by omega) (by omega)
    refine ⟨.slice none 0 0, ?_, .data _ _ (.p _ rfl)⟩
    simp [execOp, ho, hlo, hhi, q1.p_inv.1, q2.p_inv.1, this]
  case slc_01 xs k hi' g0 g1 =>
    obtain ⟨v, u, e, q1, q2⟩ := hr.two_inv
    simp only [List.cons.injEq, and_true] at e
    obtain ⟨rfl, rfl⟩ := e
    have := run xs 0 hi'.toNat _ rfl q1.dsl_inv rfl ⟨k, by rw [q2.p_inv.1, Int.toNat_of_nonneg g0]⟩ (by omega) (by omega)
    simpa using this
  case slo_01 id off n k hi' g0 g1 =>
    obtain ⟨v, u, e, q1, q2⟩ := hr.two_inv
    simp only [List.cons.injEq, and_true] at e
    obtain ⟨rfl, rfl⟩ := e
    exact own id off n 0 hi'.toNat _ rfl q1 rfl ⟨k, by rw [q2.p_inv.1, Int.toNat_of_nonneg g0]⟩ (by omega) (by omega)
  case slc_10 xs k lo' g0 g1 =>
    obtain ⟨v, u, e, q1, q2⟩ := hr.two_inv
    simp only [List.cons.injEq, and_true] at e
    obtain ⟨rfl, rfl⟩ := e
    have := run xs lo'.toNat xs.length _ rfl q1.dsl_inv ⟨k, by rw [q2.p_inv.1, Int.toNat_of_nonneg g0]⟩ rfl (by omega) (by omega)
    rwa [List.take_of_length_le (by rw [List.length_drop]; omega)] at this
  case slo_10 id off n k lo' g0 g1 =>
    obtain ⟨v, u, e, q1, q2⟩ := hr.two_inv
    simp only [List.cons.injEq, and_true] at e
    obtain ⟨rfl, rfl⟩ := e
    exact own id off n lo'.toNat n _ rfl q1 ⟨k, by rw [q2.p_inv.1, Int.toNat_of_nonneg g0]⟩ rfl (by omega) (by omega)
  case slc_11 xs k k' lo' hi' g0 g1 g2 =>
    obtain ⟨v, u, y, e, q1, q2, q3⟩ := hr.three_inv
    simp only [List.cons.injEq, and_true] at e
    obtain ⟨rfl, rfl, rfl⟩ := e
    exact run xs lo'.toNat hi'.toNat _ rfl q1.dsl_inv ⟨k, by rw [q2.p_inv.1, Int.toNat_of_nonneg g0]⟩ ⟨k', by rw [q3.p_inv.1, Int.toNat_of_nonneg (by omega)]⟩ (by omega) (by omega)
  case slo_11 id off n k k' lo' hi' g0 g1 g2 =>
    obtain ⟨v, u, y, e, q1, q2, q3⟩ := hr.three_inv
    simp only [List.cons.injEq, and_true] at e
    obtain ⟨rfl, rfl, rfl⟩ := e
    exact own id off n lo'.toNat hi'.toNat _ rfl q1 ⟨k, by rw [q2.p_inv.1, Int.toNat_of_nonneg g0]⟩ ⟨k', by rw [q3.p_inv.1, Int.toNat_of_nonneg (by omega)]⟩ (by omega) (by omega)
theorem run_ssl {t : TypeId} (h1 : P.underlying t = some .string) {s : ByteArray} (lo hi : Option Value) (l h : Nat) (hl : match lo with | none => l = 0 | some v => ∃ k, v = .int k l) (hh : match hi with | none => h = s.size | some v => ∃ k, v = .int k h) (hlh : l ≤ h) (hhc : h ≤ s.size) :
    (Instr.sliceAt t (.string s) lo hi none).run P w = .ok (.string (s.extract l h)) w := by
  cases lo <;> cases hi <;> simp only at hl hh
  · subst hl; subst hh; simp [Instr.sliceAt, Instr.slice, Instr.sliceBounds, run_underlying h1]
  · subst hl; obtain ⟨k, rfl⟩ := hh
    have : (h : Int) ≤ (s.size : Int) := by omega
    simp [Instr.sliceAt, Instr.slice, Instr.sliceBounds, Instr.sliceBound, asIntOf, run_underlying h1, this, hlh, hhc]
  · subst hh; obtain ⟨k, rfl⟩ := hl
    have : (l : Int) ≤ (s.size : Int) := by omega
    simp [Instr.sliceAt, Instr.slice, Instr.sliceBounds, Instr.sliceBound, asIntOf, run_underlying h1, this, hlh, hhc]
  · obtain ⟨k, rfl⟩ := hl; obtain ⟨k', rfl⟩ := hh
    have a1 : (l : Int) ≤ (h : Int) := by omega
    have a2 : (h : Int) ≤ (s.size : Int) := by omega
    simp [Instr.sliceAt, Instr.slice, Instr.sliceBounds, Instr.sliceBound, asIntOf, run_underlying h1, a1, a2, hlh, hhc]
theorem pu_ssl {o : Oper} {t : TypeId} {x : Operand} {lo hi : Option Operand} {a : AV} {args : List AV} (ho : o.op = .slice t x lo hi none) (h1 : P.underlying t = some .string) (hp : PuR P (.ssl lo.isSome hi.isSome) args a) (hr : Rps w S σ args ((x :: optL lo ++ optL hi).map ev)) : Val1 P w S σ ev o a := by
  have run : ∀ (s : ByteArray) (l h : Nat), ev x = .string s → (match lo.map ev with | none => l = 0 | some v => ∃ k, v = .int k l) → (match hi.map ev with | none => h = s.size | some v => ∃ k, v = .int k h) → l ≤ h → h ≤ s.size → Val1 P w S σ ev o (.p (.string (s.extract l h))) := by
    intro s l h hx hl hh hlh hhx
    refine ⟨_, ?_, .data _ _ (.p _ rfl)⟩
    have := run_ssl (P := P) (w := w) h1 (s := s) (lo.map ev) (hi.map ev) l h hl hh hlh hhx
    simp [execOp, ho, hx, this]
  cases hlo : lo <;> cases hhi : hi <;> rw [hlo, hhi] at hp hr run <;> simp only [Option.isSome] at hp <;> cases hp <;> simp only [optL, List.cons_append, List.nil_append, List.append_nil, List.map_cons, List.map_nil] at hr
  · obtain ⟨v, e, h⟩ := hr.one_inv
    injection e with e; subst e
    exact run _ 0 _ h.p_inv.1 rfl rfl (by omega) (by omega)
  · rename_i s k hi' g0 g1
    obtain ⟨v, u, e, q1, q2⟩ := hr.two_inv
    simp only [List.cons.injEq, and_true] at e
    obtain ⟨rfl, rfl⟩ := e
    exact run s 0 hi'.toNat q1.p_inv.1 rfl ⟨k, by rw [q2.p_inv.1, Int.toNat_of_nonneg g0]⟩ (by omega) (by omega)
  · rename_i s k lo' g0 g1
    obtain ⟨v, u, e, q1, q2⟩ := hr.two_inv
    simp only [List.cons.injEq, and_true] at e
    obtain ⟨rfl, rfl⟩ := e
    exact run s lo'.toNat s.size q1.p_inv.1 ⟨k, by rw [q2.p_inv.1, Int.toNat_of_nonneg g0]⟩ rfl (by omega) (by omega)
  · rename_i s k k' lo' hi' g0 g1 g2
    obtain ⟨v, u, y, e, q1, q2, q3⟩ := hr.three_inv
    simp only [List.cons.injEq, and_true] at e
    obtain ⟨rfl, rfl, rfl⟩ := e
    exact run s lo'.toNat hi'.toNat q1.p_inv.1 ⟨k, by rw [q2.p_inv.1, Int.toNat_of_nonneg g0]⟩ ⟨k', by rw [q3.p_inv.1, Int.toNat_of_nonneg (by omega)]⟩ (by omega) (by omega)
theorem pu_sidx {o : Oper} {t : TypeId} {x i : Operand} {a : AV} {args : List AV} (ho : o.op = .index t x i) (h1 : P.underlying t = some .string) (hp : PuR P .sidx args a) (hr : Rps w S σ args [ev x, ev i]) : Val1 P w S σ ev o a := by
  cases hp with
  | sidx s k i b h0 hb =>
    obtain ⟨v, u, e, q1, q2⟩ := hr.two_inv
    simp only [List.cons.injEq, and_true] at e
    obtain ⟨rfl, rfl⟩ := e
    have hx := q1.p_inv.1
    have hy := q2.p_inv.1
    refine ⟨_, ?_, .data _ _ (.p _ rfl)⟩
    simp [execOp, ho, hx, hy, Instr.index, asIntOf, run_underlying h1, h0, hb]
theorem pu_mkfn {o : Oper} {f : Fn} {xs ys : Array Operand} {a : AV} {args : List AV} (ho : o.op = .makeFunc f xs ys) (hp : PuR P (.mkfn f xs.size) args a) (hr : Rps w S σ args ((xs.toList ++ ys.toList).map ev)) : Val1 P w S σ ev o a := by
  cases hp with
  | mkfn _ _ _ hle =>
    refine ⟨.func f (xs.map ev) (ys.map ev), by simp [execOp, ho, Instr.makeFunc], ?_⟩
    have hl : args.length = xs.size + ys.size := by rw [hr.1]; simp
    have h1 : Rps w S σ (args.take xs.size) (xs.map ev).toList := by
      have := hr.take xs.size
      rw [List.map_append, List.take_left' (by simp), ← Array.toList_map] at this
      exact this
    have h2 : Rps w S σ (args.drop xs.size) (ys.map ev).toList := by
      have := hr.drop xs.size
      rw [List.map_append, List.drop_left' (by simp), ← Array.toList_map] at this
      exact this
    exact .fn f _ _ _ _ (by simpa using h1.1) (by simpa using h2.1) (fun i a v ha hv => h1.2 i a v ha (by simpa using hv)) (fun i a v ha hv => h2.2 i a v ha (by simpa using hv))
end
end Go.Proofs.Ytgkkilbeingleaa

/- Struct and slice literals on abstract values; all operations that touch no memory, together. Nothing of the program is named here. -/
namespace Go.Proofs.Ytgkkilbeingleaa
open Go.RowKit

section
variable {P : Program} {w : World} {S : Nat → Prop} {σ : Nat → Option Value} {ev : Operand → Value}
theorem setFold (off : Nat) : ∀ (l : List Value) (k : Nat) (cs : Array Value), off + k + l.length ≤ cs.size →
    ((l.zipIdx k).foldl (fun (cs : Array Value) (x : Value × Nat) => cs.setIfInBounds (off + x.2) x.1) cs).toList = cs.toList.take (off + k) ++ l ++ cs.toList.drop (off + k + l.length)
  | [], k, cs, _ => by simp
  | v :: l, k, cs, h => by
    simp only [List.zipIdx_cons, List.foldl_cons, List.length_cons] at h ⊢
    rw [setFold off l (k + 1) _ (by rw [Array.size_setIfInBounds]; omega), Array.toList_setIfInBounds]
    have hlt : off + k < cs.toList.length := by rw [Array.length_toList]; omega
    rw [show off + (k + 1) = off + k + 1 by omega, List.take_set, List.drop_set_of_lt (by omega), List.take_succ_eq_append_getElem hlt, List.set_append_right _ _ (by rw [List.length_take]; omega), List.length_take,
      Nat.min_eq_left (by omega), Nat.sub_self]
    simp only [List.set_cons_zero, List.append_assoc, List.cons_append, List.nil_append]
    rw [show off + k + 1 + l.length = off + k + (l.length + 1) by omega]
theorem cells_fold (v : Value) (off : Nat) (cs : Array Value) (h : off + v.cells.size ≤ cs.size) :
    (v.cells.zipIdx.foldl (fun cs (c, j) => cs.setIfInBounds (off + j) c) cs).toList = cs.toList.take off ++ v.cells.toList ++ cs.toList.drop (off + v.cells.size) := by
  have := setFold off v.cells.toList 0 cs (by simpa using h)
  rw [Nat.add_zero, Array.length_toList] at this
  rw [← this, ← Array.foldl_toList, Array.toList_zipIdx]
theorem Rp.cells {a : AV} {v : Value} (h : Rp w S σ a v) (h1 : a.part = true) : Rps w S σ a.cells v.cells.toList ∧ ∀ u ∈ v.cells, u.oneCell' = true := by
  unfold AV.part at h1
  by_cases ho : a.one = true
  · have hv := h.one_cell ho
    have hc : v.cells = #[v] := by cases v <;> first | rfl | cases hv
    have ha : a.cells = [a] := by cases a <;> first | rfl | cases ho
    rw [hc, ha]
    exact ⟨.cons h .nil, fun u hu => by simp at hu; subst hu; exact hv⟩
  · cases a <;> first | (exfalso; exact ho rfl) | (exfalso; simp [AV.one] at h1; done) | skip
    obtain ⟨vs, rfl, q1, q2⟩ := h.agg_inv
    exact ⟨q1, q2⟩
theorem fillA_cells {cs : List AV} {off n : Nat} {pl : List (Nat × Nat)} {a : AV} {ps : List AV} {r : List AV} (h1 : a.part = true) (h : fillA cs ((off, n) :: pl) (a :: ps) = some r) :
    a.cells.length = n ∧ off + n ≤ cs.length ∧ fillA (cs.take off ++ a.cells ++ cs.drop (off + n)) pl ps = some r := by
  have one : ∀ b : AV, b.cells = [b] → (if n = 1 ∧ off + 1 ≤ cs.length then fillA (cs.set off b) pl ps else none) = some r → b.cells.length = n ∧ off + n ≤ cs.length ∧ fillA (cs.take off ++ b.cells ++ cs.drop (off + n)) pl ps = some r := by
    intro b hb hq
    by_cases hc : n = 1 ∧ off + 1 ≤ cs.length
    · rw [if_pos hc] at hq
      obtain ⟨hn, hc⟩ := hc
      subst hn
      rw [hb]
      refine ⟨rfl, hc, ?_⟩
      rw [List.set_eq_take_append_cons_drop, if_pos (by omega)] at hq
      simpa using hq
    · rw [if_neg hc] at hq; cases hq
  cases a <;> first | exact one _ rfl h | skip
  rename_i ds
  simp only [fillA] at h
  by_cases hc : ds.length = n ∧ off + n ≤ cs.length
  · rw [if_pos hc] at h; exact ⟨hc.1, hc.2, h⟩
  · rw [if_neg hc] at h; cases h
theorem fill_sound {place : Nat → Option (Nat × Nat)} : ∀ (xs : List (Nat × Value)) (pl : List (Nat × Nat)) (as_ : List AV) (cs r : List AV) (vs : Array Value), (as_.all AV.part) = true → Rps w S σ as_ (xs.map (·.2)) →
    xs.map (fun x => place x.1) = pl.map some → fillA cs pl as_ = some r → Rps w S σ cs vs.toList → (∀ u ∈ vs, u.oneCell' = true) → ∃ us : Array Value, Instr.fill place vs xs = some us ∧ Rps w S σ r us.toList ∧ ∀ u ∈ us, u.oneCell' = true
  | [], pl, as_, cs, r, vs, _, hr, hpl, hf, hc, h1 => by
    have : pl = [] := by cases pl with | nil => rfl | cons a b => simp at hpl
    subst this
    have : as_ = [] := List.eq_nil_of_length_eq_zero (by rw [hr.1]; rfl)
    subst this
    simp only [fillA, Option.some.injEq] at hf
    subst hf
    exact ⟨vs, rfl, hc, h1⟩
  | (i, v) :: xs, pl, as_, cs, r, vs, hall, hr, hpl, hf, hc, h1 => by
    match pl, as_, hpl, hr, hall with
    | (off, n) :: pl, a :: as_, hpl, hr, hall =>
      simp only [List.map_cons, List.cons.injEq] at hpl
      simp only [List.all_cons, Bool.and_eq_true] at hall
      obtain ⟨u, us, e, q1, q2⟩ := hr.uncons
      simp only [List.map_cons, List.cons.injEq] at e
      obtain ⟨rfl, rfl⟩ := e
      obtain ⟨k1, k2, k3⟩ := fillA_cells hall.1 hf
      obtain ⟨c1, c2⟩ := q1.cells hall.1
      have hsz : v.cells.size = n := by rw [← k1, c1.1, Array.length_toList]
      have hle : off + v.cells.size ≤ vs.size := by have h5 := hc.1; have h6 : vs.toList.length = vs.size := Array.length_toList; omega
      have hcf := cells_fold v off vs hle
      obtain ⟨us', g1, g2, g3⟩ := fill_sound xs pl as_ _ r (v.cells.zipIdx.foldl (fun cs (c, j) => cs.setIfInBounds (off + j) c) vs) hall.2 q2 hpl.2 k3
        (by rw [hcf, hsz]; exact ((hc.take off).append c1).append (hc.drop _))
        (fun u hu => by
          rw [← Array.mem_toList_iff, hcf] at hu
          rcases List.mem_append.1 hu with hu | hu
          · rcases List.mem_append.1 hu with hu | hu
            · exact h1 u (Array.mem_toList_iff.1 (List.mem_of_mem_take hu))
            · exact c2 u (Array.mem_toList_iff.1 hu)
          · exact h1 u (Array.mem_toList_iff.1 (List.mem_of_mem_drop hu)))
      refine ⟨us', ?_, g2, g3⟩
      rw [Instr.fill, hpl.1]
      simp only
      rw [if_neg (by simp only [Bool.or_eq_true, decide_eq_true_eq, not_or]; exact ⟨by omega, by omega⟩)]
      exact g1
theorem zeroA_run {t : TypeId} {z : List AV} (h : zeroA P t = some z) : ∃ v, (zeroValue t).run P w = .ok v w ∧ z = v.cells.toList.map .p ∧ Rps w S σ z v.cells.toList ∧ ∀ u ∈ v.cells, u.oneCell' = true := by
  unfold zeroA at h
  cases hi : P.info? t with
  | none => rw [hi] at h; cases h
  | some i =>
    rw [hi] at h
    simp only at h
    cases hz : i.zero with
    | none => rw [hz] at h; cases h
    | some v =>
      rw [hz] at h
      simp only at h
      split at h
      · rename_i hall
        injection h with h
        rw [Array.all_eq_true'] at hall
        refine ⟨v, by simp [zeroValue, typeInfo, hi, hz], h.symm, ?_, hall⟩
        subst h
        refine ⟨by simp, fun k a u ha hu => ?_⟩
        rw [List.getElem?_map, hu] at ha
        simp at ha; subst ha
        exact .data _ _ (.p _ (hall u (Array.mem_toList_iff.1 (List.mem_of_getElem? hu))))
      · cases h
theorem mapM_places {places : List (Nat × Nat)} : ∀ {xs : List (Nat × Operand)} {pl : List (Nat × Nat)}, xs.mapM (fun x => places[x.1]?) = some pl → xs.map (fun x => places[x.1]?) = pl.map some
  | [], pl, h => by simp at h; subst h; rfl
  | x :: xs, pl, h => by
    simp only [List.mapM_cons, Option.bind_eq_bind, Option.pure_def] at h
    cases h1 : places[x.1]? with
    | none => simp [h1] at h
    | some a =>
      cases h2 : xs.mapM (fun x => places[x.1]?) with
      | none => simp [h1, h2] at h
      | some r =>
        simp [h1, h2] at h
        subst h
        simp [h1, mapM_places h2]
theorem pu_bld {o : Oper} {t : TypeId} {parts : Array (Nat × Operand)} {a : AV} {args : List AV} {z : List AV} {pl : List (Nat × Nat)} (ho : o.op = .build t parts) (hc : clsP P o.op = some (.bld z pl, parts.toList.map (·.2)))
    (hp : PuR P (.bld z pl) args a) (hr : Rps w S σ args ((parts.toList.map (·.2)).map ev)) : Val1 P w S σ ev o a := by
  cases hp with
  | bld _ _ _ cs hall hf =>
    have hxs : ((parts.map fun x => (x.1, ev x.2)).toList).map (·.2) = (parts.toList.map (·.2)).map ev := by simp
    have fin : ∀ (place : Nat → Option (Nat × Nat)) (zv : Value), zeroA P t = some z → (P.info? t).bind (·.zero) = some zv → parts.toList.map (fun x => place x.1) = pl.map some →
        (∀ us, Instr.fill place zv.cells (parts.map fun x => (x.1, ev x.2)).toList = some us → P.built t (parts.map fun x => (x.1, ev x.2)).toList = some us) → Val1 P w S σ ev o (.agg cs) := by
      intro place zv hz hzv hpl hb
      obtain ⟨v, hv, _, q1, q2⟩ := zeroA_run (P := P) (w := w) (S := S) (σ := σ) hz
      have hvz : v = zv := by
        cases hi : P.info? t with
        | none => rw [hi] at hzv; cases hzv
        | some i =>
          rw [hi] at hzv
          simp only [Option.bind_some] at hzv
          simp [zeroValue, typeInfo, hi, hzv] at hv
          exact hv.symm
      subst hvz
      obtain ⟨us, g1, g2, g3⟩ := fill_sound (place := place) (parts.map fun x => (x.1, ev x.2)).toList pl args z cs v.cells hall (by rw [hxs]; exact hr) (by rw [← hpl]; simp) hf q1 q2
      exact ⟨.agg us, by simp [execOp, ho, run_build _ _ _ us (hb us g1)], Rps.agg g2 g3⟩
    rw [ho] at hc
    simp only [clsP] at hc
    cases hu : P.underlying t with
    | none => rw [hu] at hc; cases hc
    | some d =>
      rw [hu] at hc
      cases d <;> (try simp only at hc) <;> try (cases hc; done)
      case array n e =>
        cases hz : zeroA P t with
        | none => rw [hz] at hc; cases hc
        | some z' =>
          rw [hz] at hc
          simp only at hc
          cases hi : P.info? e with
          | none => rw [hi] at hc; cases hc
          | some j =>
            rw [hi] at hc
            simp only [Option.some.injEq, Prod.mk.injEq, PO.bld.injEq] at hc
            obtain ⟨⟨rfl, rfl⟩, _⟩ := hc
            cases hit : P.info? t with
            | none => unfold zeroA at hz; rw [hit] at hz; cases hz
            | some it =>
              cases hzz : it.zero with
              | none => unfold zeroA at hz; rw [hit] at hz; simp only [hzz] at hz; cases hz
              | some zv =>
                refine fin (fun i => some (i * j.size, j.size)) zv hz (by rw [hit]; exact hzz) (by simp) (fun us hus => ?_)
                unfold Program.built
                rw [hit, hu]
                simp only [hzz, hi]
                exact hus
      case struct fields =>
        cases hz : zeroA P t with
        | none => rw [hz] at hc; cases hc
        | some z' =>
          rw [hz] at hc
          simp only at hc
          cases hpl : fields.toList.mapM (fun f => (P.info? f.type).map fun i => (f.offset, i.size)) with
          | none => rw [hpl] at hc; cases hc
          | some places =>
            rw [hpl] at hc
            simp only at hc
            cases hp2 : parts.toList.mapM (fun x => places[x.1]?) with
            | none => rw [hp2] at hc; cases hc
            | some pl' =>
              rw [hp2] at hc
              simp only [Option.some.injEq, Prod.mk.injEq, PO.bld.injEq] at hc
              obtain ⟨⟨rfl, rfl⟩, _⟩ := hc
              cases hit : P.info? t with
              | none => unfold zeroA at hz; rw [hit] at hz; cases hz
              | some it =>
                cases hzz : it.zero with
                | none => unfold zeroA at hz; rw [hit] at hz; simp only [hzz] at hz; cases hz
                | some zv =>
                  refine fin (fun i => places[i]?) zv hz (by rw [hit]; exact hzz) (mapM_places hp2) (fun us hus => ?_)
                  unfold Program.built
                  rw [hit, hu]
                  simp only [hzz, hpl]
                  simpa using hus
/-- an operation that touches no memory -/
theorem pu_sound {o : Oper} {po : PO} {xs : List Operand} {args : List AV} {a : AV} (hc : clsP P o.op = some (po, xs)) (hp : PuR P po args a) (hr : Rps w S σ args (xs.map ev))
    (hsz : ∀ id A n c, σ id = some (.slice A n c) → n ≤ c ∧ (0 < c → ∃ g o, A = some ⟨g, o, none⟩)) : Val1 P w S σ ev o a := by
  have hc0 := hc
  cases ho : o.op <;> rw [ho] at hc <;> simp only [clsP] at hc <;> try (cases hc; done)
  case move x => obtain ⟨rfl, rfl⟩ := (by simpa using hc : PO.mv = po ∧ [x] = xs); exact pu_mv (.inl ho) hp hr
  case assign x => obtain ⟨rfl, rfl⟩ := (by simpa using hc : PO.mv = po ∧ [x] = xs); exact pu_mv (.inr ho) hp hr
  case pick x y z => obtain ⟨rfl, rfl⟩ := (by simpa using hc : PO.pick = po ∧ [x, y, z] = xs); exact pu_pick ho hp hr
  case nilCheck x => obtain ⟨rfl, rfl⟩ := (by simpa using hc : PO.nilck = po ∧ [x] = xs); exact pu_nilck ho hp hr
  case binOp op t x y ty => obtain ⟨rfl, rfl⟩ := (by simpa using hc : PO.bin op t = po ∧ [x, y] = xs); exact pu_bin ho hp hr hsz
  case unOp op t x => obtain ⟨rfl, rfl⟩ := (by simpa using hc : PO.un op = po ∧ [x] = xs); exact pu_un ho hp hr
  case extract x i => obtain ⟨rfl, rfl⟩ := (by simpa using hc : PO.ext i = po ∧ [x] = xs); exact pu_ext ho hp hr
  case makeFunc f ys zs => obtain ⟨rfl, rfl⟩ := (by simpa using hc : PO.mkfn f ys.size = po ∧ ys.toList ++ zs.toList = xs); exact pu_mkfn ho hp hr
  case build t parts =>
    have : ∃ z pl, po = .bld z pl ∧ xs = parts.toList.map (·.2) := by
      revert hc
      split
      · split
        · split
          · intro hc; simp at hc; exact ⟨_, _, hc.1.symm, hc.2.symm⟩
          · intro hc; cases hc
        · intro hc; cases hc
      · split
        · intro hc; simp at hc; exact ⟨_, _, hc.1.symm, hc.2.symm⟩
        · intro hc; cases hc
      · intro hc; cases hc
    obtain ⟨z, pl, rfl, rfl⟩ := this
    exact pu_bld ho hc0 hp hr
  case convert s d x =>
    cases h1 : P.underlying s with
    | none => rw [h1] at hc; cases hc
    | some u =>
      cases h2 : P.underlying d with
      | none => rw [h1, h2] at hc; cases u <;> cases hc
      | some v =>
        rw [h1, h2] at hc
        cases u <;> cases v <;> simp only at hc <;> try (cases hc; done)
        · simp only [Option.some.injEq, Prod.mk.injEq] at hc; obtain ⟨rfl, rfl⟩ := hc; exact pu_conv ho h1 h2 hp hr
        · simp only [Option.some.injEq, Prod.mk.injEq] at hc; obtain ⟨rfl, rfl⟩ := hc; exact pu_same ho h1 h2 hp hr
  case fieldAddr t x f =>
    revert hc
    split
    · rename_i fields h1
      split
      · rename_i fd h2
        split
        · rename_i i h3
          split
          · intro hc; cases hc
          · rename_i h4
            intro hc
            simp only [Option.some.injEq, Prod.mk.injEq] at hc
            obtain ⟨rfl, rfl⟩ := hc
            exact pu_addOff ho h1 h2 h3 h4 hp hr
        · intro hc; cases hc
      · intro hc; cases hc
    · intro hc; cases hc
  case indexAddr t x i =>
    revert hc
    split
    · rename_i e h1
      cases h3 : P.info? e with
      | none => intro hc; cases hc
      | some j =>
        intro hc
        simp only [Option.map_some, Option.some.injEq, Prod.mk.injEq] at hc
        obtain ⟨rfl, rfl⟩ := hc
        exact pu_idx ho h1 h3 hp hr hsz
    · rename_i n e h1
      cases h3 : P.info? e with
      | none => intro hc; cases hc
      | some j =>
        intro hc
        simp only [Option.map_some, Option.some.injEq, Prod.mk.injEq] at hc
        obtain ⟨rfl, rfl⟩ := hc
        exact pu_aidx ho h1 h3 hp hr
    · intro hc; cases hc
  case field t x f =>
    revert hc
    split
    · rename_i fields h1
      split
      · rename_i fd h2
        split
        · rename_i b j h3 h4
          intro hc
          simp only [Option.some.injEq, Prod.mk.injEq] at hc
          obtain ⟨rfl, rfl⟩ := hc
          exact pu_fld ho h1 h2 h3 h4 hp hr
        · intro hc; cases hc
      · intro hc; cases hc
    · intro hc; cases hc
  case slice t x lo hi mx =>
    cases mx with
    | some m => cases hc
    | none =>
      simp only at hc
      revert hc
      split
      · rename_i e h1
        cases h3 : P.info? e with
        | none => intro hc; cases hc
        | some j =>
          intro hc
          simp only [Option.map_some, Option.some.injEq, Prod.mk.injEq] at hc
          obtain ⟨rfl, rfl⟩ := hc
          exact pu_slc ho h1 h3 hp hr
      · rename_i h1
        intro hc
        simp only [Option.some.injEq, Prod.mk.injEq] at hc
        obtain ⟨rfl, rfl⟩ := hc
        exact pu_ssl ho h1 hp hr
      · intro hc; cases hc
  case index t x i =>
    revert hc
    split
    · rename_i h1
      intro hc
      simp only [Option.some.injEq, Prod.mk.injEq] at hc
      obtain ⟨rfl, rfl⟩ := hc
      exact pu_sidx ho h1 hp hr
    · rename_i n e h1
      split
      · rename_i b j h3 h4
        intro hc
        simp only [Option.some.injEq, Prod.mk.injEq] at hc
        obtain ⟨rfl, rfl⟩ := hc
        exact pu_vidx ho h1 h3 h4 hp hr
      · intro hc; cases hc
    · intro hc; cases hc
  case call c =>
    revert hc
    split
    · rename_i hb
      cases ht : c.argTypes[0]? with
      | none => intro hc; simp at hc
      | some ty =>
        simp only [Option.bind_some]
        split
        · rename_i h1
          split
          · rename_i x h2
            intro hc
            simp only [Option.some.injEq, Prod.mk.injEq] at hc
            obtain ⟨rfl, rfl⟩ := hc
            exact pu_slen ho hb ht h1 h2 hp hr
          · intro hc; cases hc
        · rename_i e h1
          split
          · rename_i x h2
            intro hc
            simp only [Option.some.injEq, Prod.mk.injEq] at hc
            obtain ⟨rfl, rfl⟩ := hc
            exact pu_len ho hb ht h1 h2 hp hr
          · intro hc; cases hc
        · intro hc; cases hc
    · rename_i hb
      cases ht : c.argTypes[0]? with
      | none => intro hc; simp at hc
      | some ty =>
        simp only [Option.bind_some]
        split
        · rename_i e h1
          split
          · rename_i x h2
            intro hc
            simp only [Option.some.injEq, Prod.mk.injEq] at hc
            obtain ⟨rfl, rfl⟩ := hc
            exact pu_cap ho hb ht h1 h2 hp hr
          · intro hc; cases hc
        · intro hc; cases hc
    · rename_i hb
      cases ht : c.argTypes[0]? with
      | none => intro hc; simp at hc
      | some ty =>
        simp only [Option.bind_some]
        split
        · rename_i e h1
          split
          · rename_i x h2
            intro hc
            cases hi : P.info? e with
            | none => rw [hi] at hc; cases hc
            | some j =>
              rw [hi] at hc
              simp only [Option.map_some, Option.some.injEq, Prod.mk.injEq] at hc
              obtain ⟨rfl, rfl⟩ := hc
              exact pu_sld ho hb ht h1 h2 hp hr hsz
          · intro hc; cases hc
        · intro hc; cases hc
    · rename_i hb
      split
      · rename_i x y h2
        intro hc
        simp only [Option.some.injEq, Prod.mk.injEq] at hc
        obtain ⟨rfl, rfl⟩ := hc
        exact pu_mn ho hb h2 hp hr
      · intro hc; cases hc
    · rename_i hb
      split
      · rename_i x y h2
        intro hc
        simp only [Option.some.injEq, Prod.mk.injEq] at hc
        obtain ⟨rfl, rfl⟩ := hc
        exact pu_mx ho hb h2 hp hr
      · intro hc; cases hc
    · intro hc; cases hc
end
end Go.Proofs.Ytgkkilbeingleaa
