/- Operations that touch no memory: what the model does is what the abstract rules say. Nothing of the program is named here. -/
import Derived.Test.YtcmnjoepadjioaaAw3
import Derived.ChangeKeysEq
namespace Go.Proofs.Ytcmnjoepadjioaa
open Go.RowKit

section
variable {P : Program} {w : World} {S : Nat → Prop} {σ : Nat → Option Value} {ev : Operand → Value}
theorem Rps.one_inv {a : AV} {vs : List Value} (h : Rps w S σ [a] vs) : ∃ v, vs = [v] ∧ Rp w S σ a v := by
  obtain ⟨v, r, rfl, h1, h2⟩ := h.uncons
  obtain rfl := h2.nil_inv
  exact ⟨v, rfl, h1⟩
theorem Rps.two_inv {a b : AV} {vs : List Value} (h : Rps w S σ [a, b] vs) : ∃ v u, vs = [v, u] ∧ Rp w S σ a v ∧ Rp w S σ b u := by
  obtain ⟨v, r, rfl, h1, h2⟩ := h.uncons
  obtain ⟨u, rfl, h3⟩ := h2.one_inv
  exact ⟨v, u, rfl, h1, h3⟩
theorem Rps.three_inv {a b c : AV} {vs : List Value} (h : Rps w S σ [a, b, c] vs) : ∃ v u x, vs = [v, u, x] ∧ Rp w S σ a v ∧ Rp w S σ b u ∧ Rp w S σ c x := by
  obtain ⟨v, r, rfl, h1, h2⟩ := h.uncons
  obtain ⟨u, x, rfl, h3, h4⟩ := h2.two_inv
  exact ⟨v, u, x, rfl, h1, h3, h4⟩
theorem Rps.drop {cs : List AV} {vs : List Value} (h : Rps w S σ cs vs) (n : Nat) : Rps w S σ (cs.drop n) (vs.drop n) :=
  ⟨by rw [List.length_drop, List.length_drop, h.1], fun i a v ha hv => h.2 (n + i) a v (by rw [List.getElem?_drop] at ha; exact ha) (by rw [List.getElem?_drop] at hv; exact hv)⟩
theorem Rps.take {cs : List AV} {vs : List Value} (h : Rps w S σ cs vs) (n : Nat) : Rps w S σ (cs.take n) (vs.take n) := by
  refine ⟨by rw [List.length_take, List.length_take, h.1], fun i a v ha hv => ?_⟩
  rw [List.getElem?_take] at ha hv
  split at ha
  · rename_i hi; rw [if_pos hi] at hv; exact h.2 i a v ha hv
  · cases ha
theorem Rps.set {cs : List AV} {vs : List Value} (h : Rps w S σ cs vs) {a : AV} {v : Value} (ha : Rp w S σ a v) (n : Nat) : Rps w S σ (cs.set n a) (vs.set n v) := by
  refine ⟨by rw [List.length_set, List.length_set, h.1], fun i b u hb hu => ?_⟩
  by_cases hi : n = i
  · subst hi
    rw [List.getElem?_set] at hb hu
    rw [if_pos rfl] at hb hu
    split at hb
    · split at hu
      · injection hb with hb; injection hu with hu; subst hb; subst hu; exact ha
      · cases hu
    · cases hb
  · rw [List.getElem?_set_ne hi] at hb hu; exact h.2 i b u hb hu
theorem Rps.at_ {cs : List AV} {vs : List Value} (h : Rps w S σ cs vs) {i : Nat} {a : AV} (ha : cs[i]? = some a) : ∃ v, vs[i]? = some v ∧ Rp w S σ a v := by
  have hi : i < vs.length := by rw [← h.1]; exact (List.getElem?_eq_some_iff.1 ha).1
  exact ⟨_, List.getElem?_eq_getElem hi, h.2 i a _ ha (List.getElem?_eq_getElem hi)⟩
theorem addr_add (g o n : Nat) : Addr.add ⟨g, o, none⟩ n = ⟨g, o + n, none⟩ := by
  unfold Addr.add
  split
  · rename_i h; subst h; rfl
  · rfl
theorem mem_drop {vs : List Value} {n : Nat} (h : ∀ u ∈ vs, u.oneCell' = true) : ∀ u ∈ vs.drop n, u.oneCell' = true := fun u hu => h u (List.mem_of_mem_drop hu)
theorem mem_take {vs : List Value} {n : Nat} (h : ∀ u ∈ vs, u.oneCell' = true) : ∀ u ∈ vs.take n, u.oneCell' = true := fun u hu => h u (List.mem_of_mem_take hu)

def Val1 (P : Program) (w : World) (S : Nat → Prop) (σ : Nat → Option Value) (ev : Operand → Value) (o : Oper) (a : AV) : Prop := ∃ v, (execOp ev o).run P w = .ok (.value v) w ∧ Rp w S σ a v

theorem pu_mv {o : Oper} {x : Operand} {a : AV} {args : List AV} (ho : o.op = .move x ∨ o.op = .assign x) (hp : PuR P .mv args a) (hr : Rps w S σ args [ev x]) : Val1 P w S σ ev o a := by
  cases hp
  obtain ⟨v, e, h⟩ := hr.one_inv
  injection e with e; subst e
  refine ⟨_, ?_, h⟩
  rcases ho with ho | ho <;> simp [execOp, ho, pure, Sem.run]
theorem pu_pick {o : Oper} {x y z : Operand} {a : AV} {args : List AV} (ho : o.op = .pick x y z) (hp : PuR P .pick args a) (hr : Rps w S σ args [ev x, ev y, ev z]) : Val1 P w S σ ev o a := by
  cases hp with
  | pick c a b =>
    obtain ⟨v, u, r, e, h1, h2, h3⟩ := hr.three_inv
    simp only [List.cons.injEq, and_true] at e
    obtain ⟨rfl, rfl, rfl⟩ := e
    obtain ⟨hx, _⟩ := h1.p_inv
    refine ⟨if c then ev y else ev z, ?_, by cases c; exact h3; exact h2⟩
    cases c <;> go_simp <;> simp [execOp, ho, hx, asBool, pure, Sem.run, bind, Sem.bind]
theorem pu_nilck {o : Oper} {x : Operand} {a : AV} {args : List AV} (ho : o.op = .nilCheck x) (hp : PuR P .nilck args a) (hr : Rps w S σ args [ev x]) : Val1 P w S σ ev o a := by
  cases hp
  all_goals
    obtain ⟨v, e, h⟩ := hr.one_inv
    injection e with e; subst e
    refine ⟨ev x, ?_, h⟩
  · obtain ⟨g, hx, _⟩ := h.ptr_inv
    simp [execOp, ho, hx, pure, Sem.run]
  · obtain ⟨g, o1, n, c, hx, _⟩ := h.eptr_inv
    simp [execOp, ho, hx, pure, Sem.run]
  · obtain ⟨g, o1, c, hx, _⟩ := h.dptr_inv
    simp [execOp, ho, hx, pure, Sem.run]
  · obtain ⟨fs, cs, hx, _⟩ := h.fn_inv
    simp [execOp, ho, hx, pure, Sem.run]
theorem pu_addOff {o : Oper} {t : TypeId} {x : Operand} {f : Nat} {fields : Array Field} {fd : Field} {i : TypeInfo} {a : AV} {args : List AV} (ho : o.op = .fieldAddr t x f)
    (h1 : P.underlying t = some (.struct fields)) (h2 : fields[f]? = some fd) (h3 : P.info? fd.type = some i) (h4 : i.size ≠ 0) (hp : PuR P (.addOff fd.offset) args a) (hr : Rps w S σ args [ev x]) : Val1 P w S σ ev o a := by
  have run : ∀ g off, ev x = .pointer (some ⟨g, off, none⟩) → (execOp ev o).run P w = .ok (.value (.pointer (some ⟨g, off + fd.offset, none⟩))) w := by
    intro g off hx
    simp [execOp, ho, Instr.fieldAt, run_underlying h1, h2, hx, Instr.sureAddr, fieldPlace, sizeOf, typeInfo, h3, h4, addr_add]
  cases hp
  all_goals
    obtain ⟨v, e, h⟩ := hr.one_inv
    injection e with e; subst e
  · obtain ⟨g, hx, hs⟩ := h.ptr_inv
    exact ⟨_, run _ _ hx, .ptr _ _ g hs⟩
  · obtain ⟨g, o1, n, c, hx, hs⟩ := h.eptr_inv
    refine ⟨_, run _ _ hx, ?_⟩
    rw [Nat.add_assoc]
    exact .eptr _ _ _ _ g o1 n c hs
  · obtain ⟨g, o1, c, hx, hs, hi⟩ := h.dptr_inv
    refine ⟨_, run _ _ hx, ?_⟩
    rw [Nat.add_assoc]
    exact .dptr _ _ _ _ g o1 c hs hi
theorem pu_idx {o : Oper} {t e : TypeId} {x y : Operand} {j : TypeInfo} {a : AV} {args : List AV} (ho : o.op = .indexAddr t x y)
    (h1 : P.underlying t = some (.slice e)) (h3 : P.info? e = some j) (hp : PuR P (.idx j.size) args a) (hr : Rps w S σ args [ev x, ev y]) (hsz : ∀ id A n c, σ id = some (.slice A n c) → n ≤ c ∧ (0 < c → ∃ g o, A = some ⟨g, o, none⟩)) : Val1 P w S σ ev o a := by
  cases hp with
  | idx_dsl sz xs k i hpos hi0 hi1 =>
    obtain ⟨v, u, e, q1, q2⟩ := hr.two_inv
    simp only [List.cons.injEq, and_true] at e
    obtain ⟨rfl, rfl⟩ := e
    obtain ⟨hy, _⟩ := q2.p_inv
    have hD := q1.dsl_inv
    obtain ⟨A, c, z, hx, r1, r2, r3, r4, r5, r6⟩ := hD.dsl_inv
    have hlt : i.toNat < xs.length := by omega
    have hel := r3 _ (List.getElem_mem hlt)
    obtain ⟨g, off, rfl, _, _⟩ := r4 i.toNat _ 0 _ (List.getElem?_eq_getElem hlt) (List.getElem?_eq_getElem (by omega))
    refine ⟨.pointer (some ⟨g, off + i.toNat * j.size + 0, none⟩), ?_, .dptr _ _ _ _ g off c (by rw [← hx]; exact hD) hlt⟩
    have hlt' : i < (xs.length : Int) := hi1
    simp [execOp, ho, Instr.indexAt, run_underlying h1, hx, hy, asIntOf, hi0, hlt', sizeOf, typeInfo, h3, addr_add]
  | idx_osl sz id off n k i hi0 hi1 =>
    obtain ⟨v, u, e, q1, q2⟩ := hr.two_inv
    simp only [List.cons.injEq, and_true] at e
    obtain ⟨rfl, rfl⟩ := e
    obtain ⟨hy, _⟩ := q2.p_inv
    obtain ⟨A, B, N, c, cc, hx, hs, hle, hoc, hB⟩ := q1.osl_inv
    obtain ⟨hN, hNc⟩ := hsz id A N c hs
    obtain ⟨g, o1, rfl⟩ := hNc (by omega)
    obtain rfl := hB (by omega)
    rw [Option.map_some, addr_add] at hx
    refine ⟨.pointer (some ⟨g, o1 + (off + i.toNat) * j.size + 0, none⟩), ?_, .eptr _ _ _ _ g o1 N c hs⟩
    have hlt' : i < (n : Int) := hi1
    simp [execOp, ho, Instr.indexAt, run_underlying h1, hx, hy, asIntOf, hi0, hlt', sizeOf, typeInfo, h3, addr_add, Nat.add_mul, Nat.add_assoc]
theorem pu_aidx {o : Oper} {t e : TypeId} {m : Nat} {x y : Operand} {j : TypeInfo} {a : AV} {args : List AV} (ho : o.op = .indexAddr t x y)
    (h1 : P.underlying t = some (.array m e)) (h3 : P.info? e = some j) (hp : PuR P (.aidx m j.size) args a) (hr : Rps w S σ args [ev x, ev y]) : Val1 P w S σ ev o a := by
  have run : ∀ g off k (i : Int), ev x = .pointer (some ⟨g, off, none⟩) → ev y = .int k i → 0 ≤ i → i < (m : Int) → (execOp ev o).run P w = .ok (.value (.pointer (some ⟨g, off + i.toNat * j.size, none⟩))) w := by
    intro g off k i hx hy h0 h2
    simp [execOp, ho, Instr.indexAt, run_underlying h1, hx, hy, asIntOf, h0, h2, sizeOf, typeInfo, h3, addr_add, Instr.sureAddr]
  cases hp
  all_goals
    obtain ⟨v, u, e, q1, q2⟩ := hr.two_inv
    simp only [List.cons.injEq, and_true] at e
    obtain ⟨rfl, rfl⟩ := e
    obtain ⟨hy, _⟩ := q2.p_inv
  · obtain ⟨g, hx, hs⟩ := q1.ptr_inv
    exact ⟨_, run _ _ _ _ hx hy ‹_› ‹_›, .ptr _ _ g hs⟩
  · obtain ⟨g, o1, n, c, hx, hs⟩ := q1.eptr_inv
    refine ⟨_, run _ _ _ _ hx hy ‹_› ‹_›, ?_⟩
    rw [Nat.add_assoc]
    exact .eptr _ _ _ _ g o1 n c hs
  · obtain ⟨g, o1, c, hx, hs, hi⟩ := q1.dptr_inv
    refine ⟨_, run _ _ _ _ hx hy ‹_› ‹_›, ?_⟩
    rw [Nat.add_assoc]
    exact .dptr _ _ _ _ g o1 c hs hi
theorem run_isAggB {t : TypeId} {b : Bool} (h : aggB P t = some b) : (isAgg t).run P w = .ok b w := by
  unfold aggB at h
  cases hu : P.underlying t with
  | none => rw [hu] at h; cases h
  | some d =>
    rw [hu] at h
    cases d <;> simp only [Option.some.injEq] at h <;> subst h <;> simp [isAgg, run_underlying hu]
theorem pu_fld {o : Oper} {t : TypeId} {x : Operand} {f : Nat} {fields : Array Field} {fd : Field} {j : TypeInfo} {b : Bool} {a : AV} {args : List AV} (ho : o.op = .field t x f)
    (h1 : P.underlying t = some (.struct fields)) (h2 : fields[f]? = some fd) (h3 : aggB P fd.type = some b) (h4 : P.info? fd.type = some j) (hp : PuR P (.fld fd.offset j.size b) args a) (hr : Rps w S σ args [ev x]) : Val1 P w S σ ev o a := by
  have hag := run_isAggB (w := w) h3
  cases hp with
  | fld_agg off n cs hle =>
    obtain ⟨v, e, h⟩ := hr.one_inv
    injection e with e; subst e
    obtain ⟨vs, hx, hv, hv1⟩ := h.agg_inv
    refine ⟨.agg (vs.extract fd.offset (fd.offset + j.size)), ?_, ?_⟩
    · simp [execOp, ho, Instr.field, run_underlying h1, h2, hx, asAgg, part, hag, sizeOf, typeInfo, h4]
    · refine Rps.agg ?_ (fun u hu => hv1 u (by have h1 := Array.mem_toList_iff.2 hu; rw [Array.toList_extract] at h1; simp only [List.extract] at h1; exact Array.mem_toList_iff.1 (List.mem_of_mem_drop (List.mem_of_mem_take h1))))
      have : (vs.extract fd.offset (fd.offset + j.size)).toList = (vs.toList.drop fd.offset).take j.size := by
        rw [Array.toList_extract]; simp [List.extract]
      rw [this]
      exact (hv.drop _).take _
  | fld_one off n cs a ha =>
    obtain ⟨v, e, h⟩ := hr.one_inv
    injection e with e; subst e
    obtain ⟨vs, hx, hv, hv1⟩ := h.agg_inv
    obtain ⟨u, hu, hau⟩ := hv.at_ ha
    refine ⟨u, ?_, hau⟩
    rw [Array.getElem?_toList] at hu
    simp [execOp, ho, Instr.field, run_underlying h1, h2, hx, asAgg, part, hag, hu]
theorem pu_ext {o : Oper} {x : Operand} {i : Nat} {a : AV} {args : List AV} (ho : o.op = .extract x i) (hp : PuR P (.ext i) args a) (hr : Rps w S σ args [ev x]) : Val1 P w S σ ev o a := by
  cases hp with
  | ext _ cs a ha =>
    obtain ⟨v, e, h⟩ := hr.one_inv
    injection e with e; subst e
    obtain ⟨vs, hx, hv⟩ := h.tup_inv
    obtain ⟨u, hu, hau⟩ := hv.at_ ha
    refine ⟨u, ?_, hau⟩
    rw [Array.getElem?_toList] at hu
    simp [execOp, ho, Instr.extract, hx, hu]
theorem int_beq (a b : Int) : (a == b) = decide (a = b) := by by_cases h : a = b <;> simp [h]
theorem run_equal_bool {t : TypeId} (h : P.underlying t = some .bool) (x y : Bool) : (Op.equal t (.bool x) (.bool y)).run P w = .ok (x == y) w := by
  rw [Op.equal, Op.maxDepth, show (10000 : Nat) = 9999 + 1 from rfl, Op.equalIn]
  simp [run_underlying h]
theorem run_equal_nil {t e : TypeId} (h : P.underlying t = some (.slice e)) (A : Option Addr) (n c : Nat) : (Op.equal t (.slice A n c) (.slice none 0 0)).run P w = .ok A.isNone w := by
  rw [Op.equal, Op.maxDepth, show (10000 : Nat) = 9999 + 1 from rfl, Op.equalIn]
  cases A <;> simp [run_underlying h]
theorem eqGuard_agg {op : BinOp} {t : TypeId} {x y : Operand} {us vs : Array Value} (h : P.eqGuardType P.depth t = false) : (eqGuard op t x y (.agg us) (.agg vs)).run P w = .ok () w := by
  unfold eqGuard
  split <;> simp [h]
theorem vals_sound : ∀ {cs : List AV} {l vs : List Value}, vals cs = some l → Rps w S σ cs vs → vs = l
  | [], l, vs, h, hr => by simp only [vals, Option.some.injEq] at h; subst h; exact hr.nil_inv
  | a :: r, l, vs, h, hr => by
    cases a <;> simp only [vals] at h <;> try (cases h; done)
    rename_i v
    cases h1 : vals r with
    | none => rw [h1] at h; cases h
    | some l' =>
      rw [h1] at h
      simp only [Option.some.injEq] at h
      subst h
      obtain ⟨u, us, rfl, q1, q2⟩ := hr.uncons
      rw [q1.p_inv.1, vals_sound h1 q2]
theorem AV.val_sound {a : AV} {u v : Value} (h : a.val = some u) (hr : Rp w S σ a v) : v = u := by
  cases a <;> simp only [AV.val] at h <;> try (cases h; done)
  · injection h with h; subst h; exact hr.p_inv.1
  · rename_i cs
    cases h1 : vals cs with
    | none => rw [h1] at h; cases h
    | some l =>
      rw [h1] at h
      simp only [Option.some.injEq] at h
      subst h
      obtain ⟨vs, rfl, q, _⟩ := hr.agg_inv
      rw [← vals_sound h1 q, Array.toArray_toList]
theorem pu_bin {o : Oper} {op : BinOp} {t ty : TypeId} {x y : Operand} {a : AV} {args : List AV} (ho : o.op = .binOp op t x y ty) (hp : PuR P (.bin op t) args a) (hr : Rps w S σ args [ev x, ev y]) (hsz : ∀ id A n c, σ id = some (.slice A n c) → n ≤ c ∧ (0 < c → ∃ g o, A = some ⟨g, o, none⟩)) : Val1 P w S σ ev o a := by
  have key : ∀ v u r, ev x = v → ev y = u → (eqGuard op t x y v u).run P w = .ok () w → (binOp op t v u).run P w = .ok r w → (execOp ev o).run P w = .ok (.value r) w := by
    intro v u r hx hy h1 h2
    simp [execOp, ho, hx, hy, h1, h2]
  cases hp
  all_goals
    obtain ⟨v, u, e, q1, q2⟩ := hr.two_inv
    simp only [List.cons.injEq, and_true] at e
    obtain ⟨rfl, rfl⟩ := e
  case eql_v us vs r hu hv hg he => exact ⟨_, key _ _ _ (AV.val_sound hu q1) (AV.val_sound hv q2) (eqGuard_agg hg) (by simp [binOp, he]), .data _ _ (.p _ rfl)⟩
  case neq_v us vs r hu hv hg he => exact ⟨_, key _ _ _ (AV.val_sound hu q1) (AV.val_sound hv q2) (eqGuard_agg hg) (by simp [binOp, he]), .data _ _ (.p _ rfl)⟩
  case eqnil_dsl =>
    rename_i e sz xs hn' hsz0' hu'
    have hu : P.underlying t = some (.slice e) := by assumption
    have hn : 0 < xs.length := by assumption
    have hsz0 : 0 < sz := by assumption
    obtain ⟨A, c, z, hv, r1, r2, r3, r4, _⟩ := q1.dsl_inv.dsl_inv
    obtain ⟨e0, he0⟩ : ∃ e0, xs[0]? = some e0 := ⟨_, List.getElem?_eq_getElem hn⟩
    have hl0 := r3 e0 (List.mem_of_getElem? he0)
    obtain ⟨a0, ha0⟩ : ∃ a0, e0[0]? = some a0 := ⟨_, List.getElem?_eq_getElem (by omega)⟩
    obtain ⟨g, o', hA, _⟩ := r4 0 e0 0 a0 he0 ha0
    subst hA
    exact ⟨_, key _ _ _ hv q2.p_inv.1 (by simp [eqGuard]) (by simp [binOp, run_equal_nil hu]), .data _ _ (.p _ rfl)⟩
  case nenil_dsl =>
    rename_i e sz xs hn' hsz0' hu'
    have hu : P.underlying t = some (.slice e) := by assumption
    have hn : 0 < xs.length := by assumption
    have hsz0 : 0 < sz := by assumption
    obtain ⟨A, c, z, hv, r1, r2, r3, r4, _⟩ := q1.dsl_inv.dsl_inv
    obtain ⟨e0, he0⟩ : ∃ e0, xs[0]? = some e0 := ⟨_, List.getElem?_eq_getElem hn⟩
    have hl0 := r3 e0 (List.mem_of_getElem? he0)
    obtain ⟨a0, ha0⟩ : ∃ a0, e0[0]? = some a0 := ⟨_, List.getElem?_eq_getElem (by omega)⟩
    obtain ⟨g, o', hA, _⟩ := r4 0 e0 0 a0 he0 ha0
    subst hA
    exact ⟨_, key _ _ _ hv q2.p_inv.1 (by simp [eqGuard]) (by simp [binOp, run_equal_nil hu]), .data _ _ (.p _ rfl)⟩
  case eqnil_osl =>
    rename_i e id sz off n hn' hu'
    have hu : P.underlying t = some (.slice e) := by assumption
    have hn : 0 < n := by assumption
    obtain ⟨A, B, N, c, cc, hv, hsg, hle, hoc, hB⟩ := q1.osl_inv
    obtain ⟨g, o', hA⟩ := (hsz _ _ _ _ hsg).2 (by omega)
    subst hA
    have hBs := hB (by omega)
    rw [Option.map_some] at hBs
    subst hBs
    exact ⟨_, key _ _ _ hv q2.p_inv.1 (by simp [eqGuard]) (by simp [binOp, run_equal_nil hu]), .data _ _ (.p _ rfl)⟩
  case nenil_osl =>
    rename_i e id sz off n hn' hu'
    have hu : P.underlying t = some (.slice e) := by assumption
    have hn : 0 < n := by assumption
    obtain ⟨A, B, N, c, cc, hv, hsg, hle, hoc, hB⟩ := q1.osl_inv
    obtain ⟨g, o', hA⟩ := (hsz _ _ _ _ hsg).2 (by omega)
    subst hA
    have hBs := hB (by omega)
    rw [Option.map_some] at hBs
    subst hBs
    exact ⟨_, key _ _ _ hv q2.p_inv.1 (by simp [eqGuard]) (by simp [binOp, run_equal_nil hu]), .data _ _ (.p _ rfl)⟩
  all_goals
    have hx := q1.p_inv.1
    have hy := q2.p_inv.1
    refine ⟨_, key _ _ _ hx hy (by simp [eqGuard]) ?_, .data _ _ (.p _ rfl)⟩
    clear hr q1 q2 key hx hy
  case add_s hm =>
    simp only [binOp, Op.stringOp]
    rw [if_neg (by unfold maxLen at hm; simp [IntKind.max, IntKind.signed, IntKind.bits]; omega)]
    rfl
  case eqnil_p h => simp [binOp, run_equal_nil h]
  case nenil_p h => simp [binOp, run_equal_nil h]
  case eql_b _ _ h => simp [binOp, run_equal_bool h]
  case neq_b _ _ h => simp [binOp, run_equal_bool h]
  case eql_i a b => simp only [binOp, ne_eq, not_true_eq_false, if_false, Op.intCmp, int_beq]; rfl
  case neq_i a b => simp only [binOp, ne_eq, not_true_eq_false, if_false, Op.intCmp, bne, int_beq, decide_not]; rfl
  case shl_i h e => subst e; simp [binOp, Op.shift, Int.not_lt.2 h]
  case shr_i h e => subst e; simp [binOp, Op.shift, Int.not_lt.2 h]
  all_goals
    subst_vars
    first
    | rfl
    | (simp [binOp, Op.intArith, Op.intDiv, Op.intBits, Op.intCmp, Op.shift, Op.stringOp, *]; done)
    | skip
theorem pu_un {o : Oper} {op : UnOp} {t : TypeId} {x : Operand} {a : AV} {args : List AV} (ho : o.op = .unOp op t x) (hp : PuR P (.un op) args a) (hr : Rps w S σ args [ev x]) : Val1 P w S σ ev o a := by
  cases hp
  all_goals
    obtain ⟨v, e, h⟩ := hr.one_inv
    injection e with e; subst e
    have hx := h.p_inv.1
    refine ⟨_, ?_, .data _ _ (.p _ rfl)⟩
    subst_vars
    simp [execOp, ho, hx, Op.unary, Op.intArith]
theorem pu_conv {o : Oper} {s d : TypeId} {x : Operand} {k k0 : IntKind} {a : AV} {args : List AV} (ho : o.op = .convert s d x) (h1 : P.underlying s = some (.int k0)) (h2 : P.underlying d = some (.int k)) (hp : PuR P (.conv k) args a) (hr : Rps w S σ args [ev x]) : Val1 P w S σ ev o a := by
  cases hp
  obtain ⟨v, e, h⟩ := hr.one_inv
  injection e with e; subst e
  have hx := h.p_inv.1
  refine ⟨_, ?_, .data _ _ (.p _ rfl)⟩
  subst_vars
  simp [execOp, ho, hx, convert, run_underlying h1, run_underlying h2, Conv.intToInt]
theorem pu_same {o : Oper} {s d : TypeId} {x : Operand} {a : AV} {args : List AV} (ho : o.op = .convert s d x) (h1 : P.underlying s = some .string) (h2 : P.underlying d = some .string) (hp : PuR P .same args a) (hr : Rps w S σ args [ev x]) : Val1 P w S σ ev o a := by
  cases hp
  obtain ⟨v, e, h⟩ := hr.one_inv
  injection e with e; subst e
  have hx := h.p_inv.1
  refine ⟨_, ?_, .data _ _ (.p _ rfl)⟩
  subst_vars
  simp [execOp, ho, hx, convert, run_underlying h1, run_underlying h2]
theorem pu_len {o : Oper} {c : Call} {e : TypeId} {x : Operand} {ty : TypeId} {a : AV} {args : List AV} (ho : o.op = .call c) (hc : c.callee = .builtin .len) (h0 : c.argTypes[0]? = some ty) (h1 : P.underlying ty = some (.slice e)) (h2 : c.args.toList = [x])
    (hp : PuR P .len args a) (hr : Rps w S σ args [ev x]) : Val1 P w S σ ev o a := by
  have hx : c.args = #[x] := Array.toList_inj.1 h2
  have run : ∀ A n cc, ev x = .slice A n cc → (execOp ev o).run P w = .ok (.value (.int .i64 n)) w := by
    intro A n cc h
    simp [execOp, ho, resolve, hc, hx, invoke, builtin, Builtin.len_, h0, run_underlying h1, h, goInt]
  cases hp
  all_goals
    obtain ⟨v, e, h⟩ := hr.one_inv
    injection e with e; subst e
  · obtain ⟨A, cc, z, hv, _⟩ := h.dsl_inv.dsl_inv
    exact ⟨_, run _ _ _ hv, .data _ _ (.p _ rfl)⟩
  · obtain ⟨A, B, N, c, cc, hv, _⟩ := h.osl_inv
    exact ⟨_, run _ _ _ hv, .data _ _ (.p _ rfl)⟩
  · exact ⟨_, run _ _ _ h.p_inv.1, .data _ _ (.p _ rfl)⟩
theorem pu_cap {o : Oper} {c : Call} {e : TypeId} {x : Operand} {ty : TypeId} {a : AV} {args : List AV} (ho : o.op = .call c) (hc : c.callee = .builtin .cap) (h0 : c.argTypes[0]? = some ty) (h1 : P.underlying ty = some (.slice e)) (h2 : c.args.toList = [x])
    (hp : PuR P .cap args a) (hr : Rps w S σ args [ev x]) : Val1 P w S σ ev o a := by
  have hx : c.args = #[x] := Array.toList_inj.1 h2
  cases hp
  obtain ⟨v, e, h⟩ := hr.one_inv
  injection e with e; subst e
  refine ⟨_, ?_, .data _ _ (.p _ rfl)⟩
  simp [execOp, ho, resolve, hc, hx, invoke, builtin, Builtin.cap_, h0, run_underlying h1, h.p_inv.1, goInt]
theorem pu_mn {o : Oper} {c : Call} {x y : Operand} {a : AV} {args : List AV} (ho : o.op = .call c) (hc : c.callee = .builtin .min) (h2 : c.args.toList = [x, y])
    (hp : PuR P .mn args a) (hr : Rps w S σ args [ev x, ev y]) : Val1 P w S σ ev o a := by
  have hx : c.args = #[x, y] := Array.toList_inj.1 h2
  cases hp
  obtain ⟨v, u, e, h, k⟩ := hr.two_inv
  simp only [List.cons.injEq, and_true] at e
  obtain ⟨rfl, rfl⟩ := e
  refine ⟨_, ?_, .data _ _ (.p _ rfl)⟩
  simp [execOp, ho, resolve, hc, hx, invoke, builtin, Builtin.min_, Builtin.min2, h.p_inv.1, k.p_inv.1]
theorem pu_mx {o : Oper} {c : Call} {x y : Operand} {a : AV} {args : List AV} (ho : o.op = .call c) (hc : c.callee = .builtin .max) (h2 : c.args.toList = [x, y])
    (hp : PuR P .mx args a) (hr : Rps w S σ args [ev x, ev y]) : Val1 P w S σ ev o a := by
  have hx : c.args = #[x, y] := Array.toList_inj.1 h2
  cases hp
  obtain ⟨v, u, e, h, k⟩ := hr.two_inv
  simp only [List.cons.injEq, and_true] at e
  obtain ⟨rfl, rfl⟩ := e
  refine ⟨_, ?_, .data _ _ (.p _ rfl)⟩
  simp [execOp, ho, resolve, hc, hx, invoke, builtin, Builtin.max_, Builtin.max2, h.p_inv.1, k.p_inv.1]
theorem pu_slen {o : Oper} {c : Call} {x : Operand} {ty : TypeId} {a : AV} {args : List AV} (ho : o.op = .call c) (hc : c.callee = .builtin .len) (h0 : c.argTypes[0]? = some ty) (h1 : P.underlying ty = some .string) (h2 : c.args.toList = [x])
    (hp : PuR P .slen args a) (hr : Rps w S σ args [ev x]) : Val1 P w S σ ev o a := by
  have hx : c.args = #[x] := Array.toList_inj.1 h2
  cases hp
  obtain ⟨v, e, h⟩ := hr.one_inv
  injection e with e; subst e
  refine ⟨_, ?_, .data _ _ (.p _ rfl)⟩
  simp [execOp, ho, resolve, hc, hx, invoke, builtin, Builtin.len_, h0, run_underlying h1, h.p_inv.1, goInt]
theorem RpD.dsl_cut {sz : Nat} {xs : List (List AV)} {A : Option Addr} {n c : Nat} (h : RpD w S (.dsl sz xs) (.slice A n c)) (lo hi : Nat) (h1 : lo ≤ hi) (h2 : hi ≤ xs.length) :
    RpD w S (.dsl sz ((xs.drop lo).take (hi - lo))) (.slice (if c = lo then A else A.map (·.add (lo * sz))) (hi - lo) (c - lo)) := by
  obtain ⟨A', c', z, e, r1, r2, r3, r4, r5, r6⟩ := h.dsl_inv
  injection e with e1 e2 e3
  subst e1; subst e2; subst e3
  have hl : ((xs.drop lo).take (hi - lo)).length = hi - lo := by rw [List.length_take, List.length_drop]; omega
  have hel : ∀ (i : Nat) (e : List AV), ((xs.drop lo).take (hi - lo))[i]? = some e → i < hi - lo ∧ xs[lo + i]? = some e := by
    intro i e he
    rw [List.getElem?_take] at he
    split at he
    · rw [List.getElem?_drop] at he; exact ⟨‹_›, he⟩
    · cases he
  have := RpD.dsl (w := w) (S := S) sz ((xs.drop lo).take (hi - lo)) (if c = lo then A else A.map (·.add (lo * sz))) (c - lo) (fun i j => z (lo + i) j) (by rw [hl]; omega) (by omega) (fun e he => r3 e (List.mem_of_mem_drop (List.mem_of_mem_take he)))
    (fun i e j a he ha => by
      obtain ⟨hi', he'⟩ := hel i e he
      obtain ⟨g, o, rfl, hg, hc⟩ := r4 (lo + i) e j a he' ha
      rw [if_neg (by omega)]
      refine ⟨g, o + lo * sz, by simp [addr_add], hg, ?_⟩
      rw [show o + lo * sz + i * sz + j = o + (lo + i) * sz + j by rw [Nat.add_mul]; omega]
      exact hc)
    (fun i e j a he ha => r5 (lo + i) e j a (hel i e he).2 ha) (fun i j => r6 _ _)
  rwa [hl] at this
theorem run_slc {t e : TypeId} {j : TypeInfo} (h1 : P.underlying t = some (.slice e)) (h2 : P.info? e = some j) {A : Option Addr} {n c : Nat} (lo hi : Option Value) (l h : Nat) (hl : match lo with | none => l = 0 | some v => ∃ k, v = .int k l) (hh : match hi with | none => h = n | some v => ∃ k, v = .int k h) (hlh : l ≤ h) (hhc : h ≤ c) :
    (Instr.sliceAt t (.slice A n c) lo hi none).run P w = .ok (.slice (if c = l then A else A.map (·.add (l * j.size))) (h - l) (c - l)) w := by
  cases lo <;> cases hi <;> simp only at hl hh
  · subst hl; subst hh; simp [Instr.sliceAt, Instr.slice, Instr.sliceBounds, run_underlying h1, sizeOf, typeInfo, h2]
  · subst hl; obtain ⟨k, rfl⟩ := hh
    have : (h : Int) ≤ (c : Int) := by omega
    simp [Instr.sliceAt, Instr.slice, Instr.sliceBounds, Instr.sliceBound, asIntOf, run_underlying h1, sizeOf, typeInfo, h2, this, hlh, hhc]
  · obtain ⟨k, rfl⟩ := hl
    have : (l : Int) ≤ (h : Int) := by omega
    subst hh
    simp [Instr.sliceAt, Instr.slice, Instr.sliceBounds, Instr.sliceBound, asIntOf, run_underlying h1, sizeOf, typeInfo, h2, this, hlh, hhc]
  · obtain ⟨k, rfl⟩ := hl; obtain ⟨k', rfl⟩ := hh
    have a1 : (l : Int) ≤ (h : Int) := by omega
    have a2 : (h : Int) ≤ (c : Int) := by omega
    simp [Instr.sliceAt, Instr.slice, Instr.sliceBounds, Instr.sliceBound, asIntOf, run_underlying h1, sizeOf, typeInfo, h2, a1, a2, hlh, hhc]
theorem pu_slc {o : Oper} {t e : TypeId} {x : Operand} {lo hi : Option Operand} {j : TypeInfo} {a : AV} {args : List AV} (ho : o.op = .slice t x lo hi none) (h1 : P.underlying t = some (.slice e)) (h2 : P.info? e = some j) (hp : PuR P (.slc j.size lo.isSome hi.isSome) args a) (hr : Rps w S σ args ((x :: optL lo ++ optL hi).map ev)) : Val1 P w S σ ev o a := by
  have run : ∀ (xs : List (List AV)) (l h : Nat) (v : Value), ev x = v → RpD w S (.dsl j.size xs) v → (match lo.map ev with | none => l = 0 | some v => ∃ k, v = .int k l) → (match hi.map ev with | none => h = xs.length | some v => ∃ k, v = .int k h) → l ≤ h → h ≤ xs.length → Val1 P w S σ ev o (.dsl j.size ((xs.drop l).take (h - l))) := by
    intro xs l h v hx hD hl hh hlh hhx
    obtain ⟨A, c, z, rfl, r1, _⟩ := hD.dsl_inv
    refine ⟨_, ?_, .data _ _ (hD.dsl_cut l h hlh hhx)⟩
    have := run_slc (P := P) (w := w) h1 h2 (A := A) (n := xs.length) (c := c) (lo.map ev) (hi.map ev) l h hl hh hlh (by omega)
    simp [execOp, ho, hx, this]
  have own : ∀ (id off n l h : Nat) (v : Value), ev x = v → Rp w S σ (.osl id j.size off n) v → (match lo.map ev with | none => l = 0 | some v => ∃ k, v = .int k l) → (match hi.map ev with | none => h = n | some v => ∃ k, v = .int k h) → l ≤ h → h ≤ n → Val1 P w S σ ev o (.osl id j.size (off + l) (h - l)) := by
    intro id off n l h v hx hD hl hh hlh hhx
    obtain ⟨A, B, N, c, cc, rfl, hs, hle, hoc, hB⟩ := hD.osl_inv
    have := run_slc (P := P) (w := w) h1 h2 (A := B) (n := n) (c := cc) (lo.map ev) (hi.map ev) l h hl hh hlh (by omega)
    refine ⟨.slice (if cc = l then B else B.map (·.add (l * j.size))) (h - l) (cc - l), by simp [execOp, ho, hx, this], .osl _ _ _ _ A _ N c _ hs (by omega) (by omega) (fun hcc => ?_)⟩
    rw [if_neg (by omega), hB (by omega), Option.map_map]
    congr 1
    funext a
    show (a.add (off * j.size)).add (l * j.size) = _
    rw [add_of_add, Nat.add_mul]
  cases hlo : lo <;> cases hhi : hi <;> rw [hlo, hhi] at hp hr run own <;> simp only [Option.isSome] at hp <;> cases hp <;> simp only [optL, List.cons_append, List.nil_append, List.append_nil, List.map_cons, List.map_nil] at hr
  case slc_00 xs =>
    obtain ⟨v, e, h⟩ := hr.one_inv
    injection e with e; subst e
    have := run xs 0 xs.length _ rfl h.dsl_inv rfl rfl (by omega) (by omega)
    simpa using this
  case slo_00 id off n =>
    obtain ⟨v, e, h⟩ := hr.one_inv
    injection e with e; subst e
    exact own id off n 0 n _ rfl h rfl rfl (by omega) (by omega)
  case slc_nil k =>
    obtain ⟨v, u, e, q1, q2⟩ := hr.two_inv
    simp only [List.cons.injEq, and_true] at e
    obtain ⟨rfl, rfl⟩ := e
    have := run_slc (P := P) (w := w) h1 h2 (A := none) (n := 0) (c := 0) none (some (.int k 0)) 0 0 rfl ⟨k, rfl⟩ (by omega) (by omega)
    refine ⟨.slice none 0 0, ?_, .data _ _ (.p _ rfl)⟩
    simp [execOp, ho, hlo, hhi, q1.p_inv.1, q2.p_inv.1, this]
  case slc_01 xs k hi' g0 g1 =>
    obtain ⟨v, u, e, q1, q2⟩ := hr.two_inv
    simp only [List.cons.injEq, and_true] at e
    obtain ⟨rfl, rfl⟩ := e
    have := run xs 0 hi'.toNat _ rfl q1.dsl_inv rfl ⟨k, by rw [q2.p_inv.1, Int.toNat_of_nonneg g0]⟩ (by omega) (by omega)
    simpa using this
  case slo_01 id off n k hi' g0 g1 =>
    obtain ⟨v, u, e, q1, q2⟩ := hr.two_inv
    simp only [List.cons.injEq, and_true] at e
    obtain ⟨rfl, rfl⟩ := e
    exact own id off n 0 hi'.toNat _ rfl q1 rfl ⟨k, by rw [q2.p_inv.1, Int.toNat_of_nonneg g0]⟩ (by omega) (by omega)
  case slc_10 xs k lo' g0 g1 =>
    obtain ⟨v, u, e, q1, q2⟩ := hr.two_inv
    simp only [List.cons.injEq, and_true] at e
    obtain ⟨rfl, rfl⟩ := e
    have := run xs lo'.toNat xs.length _ rfl q1.dsl_inv ⟨k, by rw [q2.p_inv.1, Int.toNat_of_nonneg g0]⟩ rfl (by omega) (by omega)
    rwa [List.take_of_length_le (by rw [List.length_drop]; omega)] at this
  case slo_10 id off n k lo' g0 g1 =>
    obtain ⟨v, u, e, q1, q2⟩ := hr.two_inv
    simp only [List.cons.injEq, and_true] at e
    obtain ⟨rfl, rfl⟩ := e
    exact own id off n lo'.toNat n _ rfl q1 ⟨k, by rw [q2.p_inv.1, Int.toNat_of_nonneg g0]⟩ rfl (by omega) (by omega)
  case slc_11 xs k k' lo' hi' g0 g1 g2 =>
    obtain ⟨v, u, y, e, q1, q2, q3⟩ := hr.three_inv
    simp only [List.cons.injEq, and_true] at e
    obtain ⟨rfl, rfl, rfl⟩ := e
    exact run xs lo'.toNat hi'.toNat _ rfl q1.dsl_inv ⟨k, by rw [q2.p_inv.1, Int.toNat_of_nonneg g0]⟩ ⟨k', by rw [q3.p_inv.1, Int.toNat_of_nonneg (by omega)]⟩ (by omega) (by omega)
  case slo_11 id off n k k' lo' hi' g0 g1 g2 =>
    obtain ⟨v, u, y, e, q1, q2, q3⟩ := hr.three_inv
    simp only [List.cons.injEq, and_true] at e
    obtain ⟨rfl, rfl, rfl⟩ := e
    exact own id off n lo'.toNat hi'.toNat _ rfl q1 ⟨k, by rw [q2.p_inv.1, Int.toNat_of_nonneg g0]⟩ ⟨k', by rw [q3.p_inv.1, Int.toNat_of_nonneg (by omega)]⟩ (by omega) (by omega)
theorem run_ssl {t : TypeId} (h1 : P.underlying t = some .string) {s : ByteArray} (lo hi : Option Value) (l h : Nat) (hl : match lo with | none => l = 0 | some v => ∃ k, v = .int k l) (hh : match hi with | none => h = s.size | some v => ∃ k, v = .int k h) (hlh : l ≤ h) (hhc : h ≤ s.size) :
    (Instr.sliceAt t (.string s) lo hi none).run P w = .ok (.string (s.extract l h)) w := by
  cases lo <;> cases hi <;> simp only at hl hh
  · subst hl; subst hh; simp [Instr.sliceAt, Instr.slice, Instr.sliceBounds, run_underlying h1]
  · subst hl; obtain ⟨k, rfl⟩ := hh
    have : (h : Int) ≤ (s.size : Int) := by omega
    simp [Instr.sliceAt, Instr.slice, Instr.sliceBounds, Instr.sliceBound, asIntOf, run_underlying h1, this, hlh, hhc]
  · subst hh; obtain ⟨k, rfl⟩ := hl
    have : (l : Int) ≤ (s.size : Int) := by omega
    simp [Instr.sliceAt, Instr.slice, Instr.sliceBounds, Instr.sliceBound, asIntOf, run_underlying h1, this, hlh, hhc]
  · obtain ⟨k, rfl⟩ := hl; obtain ⟨k', rfl⟩ := hh
    have a1 : (l : Int) ≤ (h : Int) := by omega
    have a2 : (h : Int) ≤ (s.size : Int) := by omega
    simp [Instr.sliceAt, Instr.slice, Instr.sliceBounds, Instr.sliceBound, asIntOf, run_underlying h1, a1, a2, hlh, hhc]
theorem pu_ssl {o : Oper} {t : TypeId} {x : Operand} {lo hi : Option Operand} {a : AV} {args : List AV} (ho : o.op = .slice t x lo hi none) (h1 : P.underlying t = some .string) (hp : PuR P (.ssl lo.isSome hi.isSome) args a) (hr : Rps w S σ args ((x :: optL lo ++ optL hi).map ev)) : Val1 P w S σ ev o a := by
  have run : ∀ (s : ByteArray) (l h : Nat), ev x = .string s → (match lo.map ev with | none => l = 0 | some v => ∃ k, v = .int k l) → (match hi.map ev with | none => h = s.size | some v => ∃ k, v = .int k h) → l ≤ h → h ≤ s.size → Val1 P w S σ ev o (.p (.string (s.extract l h))) := by
    intro s l h hx hl hh hlh hhx
    refine ⟨_, ?_, .data _ _ (.p _ rfl)⟩
    have := run_ssl (P := P) (w := w) h1 (s := s) (lo.map ev) (hi.map ev) l h hl hh hlh hhx
    simp [execOp, ho, hx, this]
  cases hlo : lo <;> cases hhi : hi <;> rw [hlo, hhi] at hp hr run <;> simp only [Option.isSome] at hp <;> cases hp <;> simp only [optL, List.cons_append, List.nil_append, List.append_nil, List.map_cons, List.map_nil] at hr
  · obtain ⟨v, e, h⟩ := hr.one_inv
    injection e with e; subst e
    exact run _ 0 _ h.p_inv.1 rfl rfl (by omega) (by omega)
  · rename_i s k hi' g0 g1
    obtain ⟨v, u, e, q1, q2⟩ := hr.two_inv
    simp only [List.cons.injEq, and_true] at e
    obtain ⟨rfl, rfl⟩ := e
    exact run s 0 hi'.toNat q1.p_inv.1 rfl ⟨k, by rw [q2.p_inv.1, Int.toNat_of_nonneg g0]⟩ (by omega) (by omega)
  · rename_i s k lo' g0 g1
    obtain ⟨v, u, e, q1, q2⟩ := hr.two_inv
    simp only [List.cons.injEq, and_true] at e
    obtain ⟨rfl, rfl⟩ := e
    exact run s lo'.toNat s.size q1.p_inv.1 ⟨k, by rw [q2.p_inv.1, Int.toNat_of_nonneg g0]⟩ rfl (by omega) (by omega)
  · rename_i s k k' lo' hi' g0 g1 g2
    obtain ⟨v, u, y, e, q1, q2, q3⟩ := hr.three_inv
    simp only [List.cons.injEq, and_true] at e
    obtain ⟨rfl, rfl, rfl⟩ := e
    exact run s lo'.toNat hi'.toNat q1.p_inv.1 ⟨k, by rw [q2.p_inv.1, Int.toNat_of_nonneg g0]⟩ ⟨k', by rw [q3.p_inv.1, Int.toNat_of_nonneg (by omega)]⟩ (by omega) (by omega)
theorem pu_sidx {o : Oper} {t : TypeId} {x i : Operand} {a : AV} {args : List AV} (ho : o.op = .index t x i) (h1 : P.underlying t = some .string) (hp : PuR P .sidx args a) (hr : Rps w S σ args [ev x, ev i]) : Val1 P w S σ ev o a := by
  cases hp with
  | sidx s k i b h0 hb =>
    obtain ⟨v, u, e, q1, q2⟩ := hr.two_inv
    simp only [List.cons.injEq, and_true] at e
    obtain ⟨rfl, rfl⟩ := e
    have hx := q1.p_inv.1
    have hy := q2.p_inv.1
    refine ⟨_, ?_, .data _ _ (.p _ rfl)⟩
    simp [execOp, ho, hx, hy, Instr.index, asIntOf, run_underlying h1, h0, hb]
theorem pu_mkfn {o : Oper} {f : Fn} {xs ys : Array Operand} {a : AV} {args : List AV} (ho : o.op = .makeFunc f xs ys) (hp : PuR P (.mkfn f xs.size) args a) (hr : Rps w S σ args ((xs.toList ++ ys.toList).map ev)) : Val1 P w S σ ev o a := by
  cases hp with
  | mkfn _ _ _ hle =>
    refine ⟨.func f (xs.map ev) (ys.map ev), by simp [execOp, ho, Instr.makeFunc], ?_⟩
    have hl : args.length = xs.size + ys.size := by rw [hr.1]; simp
    have h1 : Rps w S σ (args.take xs.size) (xs.map ev).toList := by
      have := hr.take xs.size
      rw [List.map_append, List.take_left' (by simp), ← Array.toList_map] at this
      exact this
    have h2 : Rps w S σ (args.drop xs.size) (ys.map ev).toList := by
      have := hr.drop xs.size
      rw [List.map_append, List.drop_left' (by simp), ← Array.toList_map] at this
      exact this
    exact .fn f _ _ _ _ (by simpa using h1.1) (by simpa using h2.1) (fun i a v ha hv => h1.2 i a v ha (by simpa using hv)) (fun i a v ha hv => h2.2 i a v ha (by simpa using hv))
end
end Go.Proofs.Ytcmnjoepadjioaa
