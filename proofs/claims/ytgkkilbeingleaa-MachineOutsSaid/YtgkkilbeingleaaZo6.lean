/- Texts that the proof rests on, part 6: what each holds stands at its head. -/
import Derived.Test.YtgkkilbeingleaaZo5
import Derived.Scope

/- A drawn region told once for each way in which some of its operations come one ahead of the other. Nothing of the program is named here. -/
namespace Go.Proofs.Ytgkkilbeingleaa
open Go.RowKit Go.Maps

inductive Fk where
  | leaf (ord : List Nat) (M : Array Nat)
  | split (i j : Nat) (a b : Fk)
  | mark (k : Nat) (a : Fk)
/-- operation j waits for operation i; both are marked -/
def fkJ (j i k : Nat) (o : Oper) : Oper := bif Nat.beq k j then { o with after := (o.after.push ⟨i, .chain⟩).push ⟨j, .textOnly .rangeFuncRecover⟩ } else bif Nat.beq k i then { o with after := o.after.push ⟨i, .textOnly .rangeFuncRecover⟩ } else o
def fkAL (j i : Nat) : List Oper → Nat → List Oper
  | [], _ => []
  | o :: r, k => fkJ j i k o :: fkAL j i r (k + 1)
def fkAE (ops : Array Oper) (j i : Nat) : Array Oper := ⟨fkAL j i ops.toList 0⟩
/-- a mark -/
def fkM (k i : Nat) (o : Oper) : Oper := bif Nat.beq i k then { o with after := o.after.push ⟨k, .textOnly .rangeFuncRecover⟩ } else o
def fkML (k : Nat) : List Oper → Nat → List Oper
  | [], _ => []
  | o :: r, i => fkM k i o :: fkML k r (i + 1)
def fkME (ops : Array Oper) (k : Nat) : Array Oper := ⟨fkML k ops.toList 0⟩
/-- one operation after the other, in an order that is told -/
def seqO (P : Program) (n b : Nat) (ops : Array Oper) : List Nat → Env → (Env → AH → Prop) → AH → AH → Prop
  | [], env, k, _, H => k env H
  | i :: l, env, k, V, H => opV P n b ops i env V (fun env' V' H' => seqO P n b ops l env' k V' H') H
def BothA (X Y : AH → Prop) (H : AH) : Prop := X H ∧ Y H
def fkA (P : Program) (n b : Nat) (env : Env) (k : Env → AH → Prop) : Array Oper → Fk → AH → Prop
  | ops, .leaf ord _ => bif hasOld P ops then VwD (fun V => seqO P n b ops ord env k V) else Vw (fun V => seqO P n b ops ord env k V)
  | ops, .split i j x y => BothA (fkA P n b env k (fkAE ops j i) x) (fkA P n b env k (fkAE ops i j) y)
  | ops, .mark i x => fkA P n b env k (fkME ops i) x
def ordOk (ops : Array Oper) (M : Array Nat) : List Nat → List Nat → Bool
  | done, [] => (List.range ops.size).all fun k => done.contains k
  | done, i :: rest => !done.contains i && (match ops[i]? with
    | some o => o.after.all (fun e => !Region.binds .any e || done.contains e.on) && (List.range ops.size).all fun k => !(M.getD i 0).testBit k || o.after.any (fun e => Region.binds .any e && (e.on == k || (M.getD e.on 0).testBit k))
    | none => false) && ordOk ops M (i :: done) rest
def freeO (P : Program) (ops : Array Oper) (M : Array Nat) : List Nat → Bool
  | [] => true
  | i :: rest => (rest.all fun j => (M.getD j 0).testBit i || match ops[i]?, ops[j]? with
    | some x, some y => indep P ops x y i j
    | _, _ => true) && freeO P ops M rest
def fkOk (P : Program) : Array Oper → Fk → Bool
  | ops, .leaf ord M => Nat.beq ord.length ops.size && ordOk ops M [] ord && freeO P ops M ord
  | ops, .split i j x y => !Nat.beq i j && fkOk P (fkAE ops j i) x && fkOk P (fkAE ops i j) y
  | ops, .mark i x => fkOk P (fkME ops i) x

section
variable {P : Program} {w : World} {S : Nat → Prop} {σ : Nat → Option Value} {H V : AH} {n b : Nat} {ops : Array Oper}
theorem fkJ_op (j i k : Nat) (o : Oper) : (fkJ j i k o).op = o.op ∧ (fkJ j i k o).dst = o.dst ∧ (fkJ j i k o).guard = o.guard ∧ (fkJ j i k o).type = o.type ∧ (fkJ j i k o).pos = o.pos := by
  unfold fkJ; cases Nat.beq k j <;> cases Nat.beq k i <;> exact ⟨rfl, rfl, rfl, rfl, rfl⟩
theorem fkAL_get (j i : Nat) : ∀ (l : List Oper) (s k : Nat), (fkAL j i l s)[k]? = (l[k]?).map (fkJ j i (s + k))
  | [], _, _ => by simp [fkAL]
  | o :: r, s, 0 => by simp [fkAL]
  | o :: r, s, k + 1 => by
    simp only [fkAL, List.getElem?_cons_succ]
    rw [fkAL_get j i r (s + 1) k, show s + 1 + k = s + (k + 1) by omega]
theorem fkAL_len (j i : Nat) : ∀ (l : List Oper) (s : Nat), (fkAL j i l s).length = l.length
  | [], _ => rfl
  | o :: r, s => by simp [fkAL, fkAL_len j i r (s + 1)]
theorem fkAE_get (ops : Array Oper) (j i k : Nat) : (fkAE ops j i)[k]? = (ops[k]?).map (fkJ j i k) := by
  unfold fkAE
  rw [List.getElem?_toArray, fkAL_get, Array.getElem?_toList, Nat.zero_add]
theorem fkAE_size (ops : Array Oper) (j i : Nat) : (fkAE ops j i).size = ops.size := by
  unfold fkAE
  rw [List.size_toArray, fkAL_len, Array.length_toList]
theorem fkJ_wp (j i k : Nat) (o : Oper) (a : Act) (K : Act → World → Prop) (Q : Exit → Act → World → Prop) : (fkJ j i k o).wp P a w K Q = o.wp P a w K Q := by
  unfold fkJ; cases Nat.beq k j <;> cases Nat.beq k i <;> rfl
theorem fkJ_asks (j i k : Nat) (o : Oper) (a : Act) : (fkJ j i k o).asks P a w = o.asks P a w := by
  unfold fkJ; cases Nat.beq k j <;> cases Nat.beq k i <;> rfl
theorem yielded_add (j i : Nat) (ts : Array Value) : yielded (fkAE ops j i) ts = yielded ops ts := by
  funext k
  unfold yielded
  rw [fkAE_get]
  cases ops[k]? with
  | none => rfl
  | some o => simp only [Option.map_some, Option.bind_some, (fkJ_op j i k o).2.1]
theorem fkM_op (k i : Nat) (o : Oper) : (fkM k i o).op = o.op ∧ (fkM k i o).dst = o.dst ∧ (fkM k i o).guard = o.guard := by
  unfold fkM; cases Nat.beq i k <;> exact ⟨rfl, rfl, rfl⟩
theorem fkML_get (k : Nat) : ∀ (l : List Oper) (s i : Nat), (fkML k l s)[i]? = (l[i]?).map (fkM k (s + i))
  | [], _, _ => by simp [fkML]
  | o :: r, s, 0 => by simp [fkML]
  | o :: r, s, i + 1 => by
    simp only [fkML, List.getElem?_cons_succ]
    rw [fkML_get k r (s + 1) i, show s + 1 + i = s + (i + 1) by omega]
theorem fkML_len (k : Nat) : ∀ (l : List Oper) (s : Nat), (fkML k l s).length = l.length
  | [], _ => rfl
  | o :: r, s => by simp [fkML, fkML_len k r (s + 1)]
theorem fkME_get (ops : Array Oper) (k i : Nat) : (fkME ops k)[i]? = (ops[i]?).map (fkM k i) := by
  unfold fkME
  rw [List.getElem?_toArray, fkML_get, Array.getElem?_toList, Nat.zero_add]
theorem fkME_size (ops : Array Oper) (k : Nat) : (fkME ops k).size = ops.size := by
  unfold fkME
  rw [List.size_toArray, fkML_len, Array.length_toList]
theorem fkM_wp (k i : Nat) (o : Oper) (a : Act) (K : Act → World → Prop) (Q : Exit → Act → World → Prop) : (fkM k i o).wp P a w K Q = o.wp P a w K Q := by
  unfold fkM; cases Nat.beq i k <;> rfl
theorem fkM_asks (k i : Nat) (o : Oper) (a : Act) : (fkM k i o).asks P a w = o.asks P a w := by
  unfold fkM; cases Nat.beq i k <;> rfl
theorem yielded_mk (k : Nat) (ts : Array Value) : yielded (fkME ops k) ts = yielded ops ts := by
  funext i
  unfold yielded
  rw [fkME_get]
  cases ops[i]? with
  | none => rfl
  | some o => simp only [Option.map_some, Option.bind_some, (fkM_op k i o).2.1]
theorem wpOp_mk {Q : Exit → Act → World → Prop} (k i : Nat) (K : Act → World → Prop) (a : Act) : wpOp P (fkME ops k) Q i K a w = wpOp P ops Q i K a w := by
  unfold wpOp
  rw [fkME_get]
  cases ops[i]? with
  | none => rfl
  | some o =>
    simp only [Option.map_some, yielded_mk, fkM_wp, fkM_asks, (fkM_op k i o).2.1, Region.wanted, (fkM_op k i o).2.2]
    congr
theorem wpOps_mk {Q : Exit → Act → World → Prop} (k : Nat) : ∀ (L : List Nat) (a : Act) (w : World), wpOps P (fkME ops k) Q L a w = wpOps P ops Q L a w
  | [], a, w => by simp [wpOps]
  | i :: L, a, w => by
    rw [wpOps_cons, wpOps_cons, wpOp_mk, show wpOps P (fkME ops k) Q L = wpOps P ops Q L from funext fun a => funext fun w => wpOps_mk k L a w]
theorem wpOp_add {Q : Exit → Act → World → Prop} (j i k : Nat) (K : Act → World → Prop) (a : Act) : wpOp P (fkAE ops j i) Q k K a w = wpOp P ops Q k K a w := by
  unfold wpOp
  rw [fkAE_get]
  cases ops[k]? with
  | none => rfl
  | some o =>
    simp only [Option.map_some, yielded_add, fkJ_wp, fkJ_asks, (fkJ_op j i k o).2.1, Region.wanted, (fkJ_op j i k o).2.2.1]
    congr
theorem wpOps_add {Q : Exit → Act → World → Prop} (j i : Nat) : ∀ (L : List Nat) (a : Act) (w : World), wpOps P (fkAE ops j i) Q L a w = wpOps P ops Q L a w
  | [], a, w => by simp [wpOps]
  | k :: L, a, w => by
    rw [wpOps_cons, wpOps_cons, wpOp_add, show wpOps P (fkAE ops j i) Q L = wpOps P ops Q L from funext fun a => funext fun w => wpOps_add j i L a w]
/-- an order that the region may take -/
def FkLin (ops : Array Oper) : Nat → Array Bool → List Nat → Prop
  | 0, _, L => L = []
  | _ + 1, listed, [] => Region.ready .any ops listed = []
  | f + 1, listed, i :: L => i ∈ Region.ready .any ops listed ∧ FkLin ops f (listed.setIfInBounds i true) L
theorem lin_go : ∀ (fuel t : Nat) (listed : Array Bool), FkLin ops fuel listed (Region.linearise.go .any ops fuel t listed []) := by
  intro fuel
  induction fuel with
  | zero => intro t listed; simp [Region.linearise.go, FkLin]
  | succ fuel ih =>
    intro t listed
    simp only [Region.linearise.go]
    change FkLin ops (fuel + 1) listed (match (Region.ready .any ops listed)[t % (Region.ready .any ops listed).length]? with
      | some i => Region.linearise.go .any ops fuel (t / (Region.ready .any ops listed).length) (listed.setIfInBounds i true) [i]
      | none => [].reverse)
    cases hi : (Region.ready .any ops listed)[t % (Region.ready .any ops listed).length]? with
    | none =>
      have hnil : Region.ready .any ops listed = [] := by
        cases hr : Region.ready .any ops listed with
        | nil => rfl
        | cons x xs =>
          rw [hr] at hi
          have hlt : t % (x :: xs).length < (x :: xs).length := Nat.mod_lt _ (by simp)
          simp at hi
          simp at hlt
          omega
      simpa [FkLin] using hnil
    | some i =>
      simp only []
      rw [linearise_go_acc, List.reverse_singleton, List.singleton_append]
      exact ⟨List.mem_of_getElem? hi, ih _ _⟩
theorem wpAny_lin {Q : Exit → Act → World → Prop} : ∀ (fuel : Nat) (listed : Array Bool) (L : List Nat) (a : Act) (w : World), wpAny P .any ops Q fuel listed a w → FkLin ops fuel listed L → wpOps P ops Q L a w := by
  intro fuel
  induction fuel with
  | zero => intro listed L a w h hl; cases hl; simpa [wpOps] using h.2
  | succ fuel ih =>
    intro listed L a w h hl
    cases L with
    | nil => simpa [wpOps] using h.1 hl
    | cons i L =>
      rw [wpOps_cons]
      exact wpOp_mono (fun a w h => ih _ L a w h hl.2) (h.2 i hl.1)
/-- j stands behind i -/
def FkAhead (i j : Nat) : Array Bool → List Nat → Prop
  | _, [] => True
  | listed, k :: L => (k = j → listed.getD i false = true) ∧ FkAhead i j (listed.setIfInBounds k true) L
theorem ahead_on {i j : Nat} : ∀ (L : List Nat) (listed : Array Bool), listed.getD i false = true → FkAhead i j listed L
  | [], _, _ => trivial
  | _ :: L, _, h => ⟨fun _ => h, ahead_on L _ (getD_set_true h)⟩
theorem set_on {listed : Array Bool} {k : Nat} (h : listed.getD k true = false) : (listed.setIfInBounds k true).getD k false = true := by
  rcases Nat.lt_or_ge k listed.size with h' | h'
  · simp [h']
  · simp [Array.getElem?_eq_none h'] at h
theorem ahead_or {i j : Nat} (hij : i ≠ j) : ∀ (f : Nat) (L : List Nat) (listed : Array Bool), FkLin ops f listed L → FkAhead i j listed L ∨ FkAhead j i listed L
  | _, [], _, _ => .inl trivial
  | 0, k :: L, _, h => by cases h
  | f + 1, k :: L, listed, h => by
    have hu := (mem_ready.1 h.1).1
    by_cases h1 : k = i
    · subst h1; exact .inl ⟨fun e => absurd e hij, ahead_on L _ (set_on hu)⟩
    · by_cases h2 : k = j
      · subst h2; exact .inr ⟨fun e => absurd e (Ne.symm hij), ahead_on L _ (set_on hu)⟩
      · exact (ahead_or hij f L _ h.2).imp (fun h => ⟨fun e => absurd e h2, h⟩) (fun h => ⟨fun e => absurd e h1, h⟩)
theorem ready_add {i j k : Nat} {listed : Array Bool} : k ∈ Region.ready .any (fkAE ops j i) listed ↔ k ∈ Region.ready .any ops listed ∧ (k = j → listed.getD i false = true) := by
  rw [mem_ready, mem_ready, fkAE_get]
  constructor
  · rintro ⟨h1, o, ho, hall⟩
    cases hk : ops[k]? with
    | none => rw [hk] at ho; cases ho
    | some o' =>
      rw [hk] at ho
      simp only [Option.map_some, Option.some.injEq] at ho
      subst ho
      refine ⟨⟨h1, o', rfl, fun e he hb => hall e ?_ hb⟩, fun hj => ?_⟩
      · unfold fkJ; cases Nat.beq k j <;> cases Nat.beq k i <;> simp [he]
      · subst hj
        exact hall ⟨i, .chain⟩ (by unfold fkJ; rw [show Nat.beq k k = true from Nat.beq_refl k]; simp) rfl
  · rintro ⟨⟨h1, o, ho, hall⟩, hj⟩
    refine ⟨h1, fkJ j i k o, by rw [ho]; rfl, fun e he hb => ?_⟩
    unfold fkJ at he
    cases hkj : Nat.beq k j with
    | true =>
      have := Nat.eq_of_beq_eq_true hkj
      rw [hkj] at he
      simp only [cond_true, Array.mem_push] at he
      rcases he with (he | he) | he
      · exact hall e he hb
      · subst he; exact hj this
      · subst he; cases hb
    | false =>
      rw [hkj] at he
      cases hki : Nat.beq k i with
      | true =>
        rw [hki] at he
        simp only [cond_true, cond_false, Array.mem_push] at he
        rcases he with he | he
        · exact hall e he hb
        · subst he; cases hb
      | false => rw [hki] at he; exact hall e he hb
theorem lin_add {i j : Nat} : ∀ (f : Nat) (L : List Nat) (listed : Array Bool), FkLin ops f listed L → FkAhead i j listed L → FkLin (fkAE ops j i) f listed L
  | 0, L, _, h, _ => h
  | f + 1, [], listed, h, _ => by
    show Region.ready .any (fkAE ops j i) listed = []
    rw [List.eq_nil_iff_forall_not_mem]
    intro k hk
    have h' : Region.ready .any ops listed = [] := h
    have := (ready_add.1 hk).1
    rw [h'] at this
    cases this
  | f + 1, k :: L, listed, h, ha => ⟨ready_add.2 ⟨h.1, ha.1⟩, lin_add f L _ h.2 ha.2⟩
theorem ready_mk {k : Nat} {listed : Array Bool} : Region.ready .any (fkME ops k) listed = Region.ready .any ops listed := by
  unfold Region.ready
  rw [fkME_size]
  congr 1
  funext i
  rw [fkME_get]
  cases ops[i]? with
  | none => rfl
  | some o =>
    simp only [Option.map_some, Option.getD_some]
    unfold fkM
    cases Nat.beq i k with
    | false => rfl
    | true =>
      simp only [cond_true, Array.all_push]
      rw [show (!Region.binds .any ⟨k, .textOnly .rangeFuncRecover⟩) = true from rfl, Bool.true_or, Bool.and_true]
theorem lin_mk {k : Nat} : ∀ (f : Nat) (L : List Nat) (listed : Array Bool), FkLin ops f listed L → FkLin (fkME ops k) f listed L
  | 0, L, _, h => h
  | f + 1, [], listed, h => by
    show Region.ready .any (fkME ops k) listed = []
    rw [ready_mk]; exact h
  | f + 1, i :: L, listed, h => ⟨by rw [ready_mk]; exact h.1, lin_mk f L _ h.2⟩
/-- what hangs on what -/
inductive FkRch (ops : Array Oper) : Nat → Nat → Prop
  | one (j : Nat) (o : Oper) (e : Edge) : ops[j]? = some o → e ∈ o.after → Region.binds .any e = true → FkRch ops j e.on
  | more (j i : Nat) (o : Oper) (e : Edge) : ops[j]? = some o → e ∈ o.after → Region.binds .any e = true → FkRch ops e.on i → FkRch ops j i
theorem rch_listed {listed : Array Bool} (hc : closedL ops listed) {j i : Nat} (h : FkRch ops j i) : listed.getD j false = true → listed.getD i false = true := by
  induction h with
  | one j o e h1 h2 h3 => exact fun hl => hc j o h1 hl e h2 h3
  | more j i o e h1 h2 h3 _ ih => exact fun hl => ih (hc j o h1 hl e h2 h3)
theorem ord_spec {M : Array Nat} : ∀ (rest done : List Nat), ordOk ops M done rest = true → (∀ j ∈ done, ∀ k, k < ops.size → (M.getD j 0).testBit k = true → FkRch ops j k) →
    (∀ j ∈ rest, ∀ k, k < ops.size → (M.getD j 0).testBit k = true → FkRch ops j k) ∧ ∀ j, j < ops.size → j ∈ done ∨ j ∈ rest
  | [], done, h, hd => by
    refine ⟨by simp, fun j hj => .inl ?_⟩
    have := List.all_eq_true.1 h j (List.mem_range.2 hj)
    simpa using this
  | i :: rest, done, h, hd => by
    simp only [ordOk, Bool.and_eq_true] at h
    obtain ⟨⟨h1, h2⟩, h3⟩ := h
    cases ho : ops[i]? with
    | none => rw [ho] at h2; cases h2
    | some o =>
      rw [ho] at h2
      simp only [Bool.and_eq_true] at h2
      obtain ⟨h4, h5⟩ := h2
      have hi : ∀ k, k < ops.size → (M.getD i 0).testBit k = true → FkRch ops i k := fun k hk hb => by
        have := List.all_eq_true.1 h5 k (List.mem_range.2 hk)
        simp only [hb, Bool.not_true, Bool.false_or] at this
        obtain ⟨e, he, hq⟩ := Array.any_eq_true'.1 this
        simp only [Bool.and_eq_true, Bool.or_eq_true, beq_iff_eq] at hq
        have hon := Array.all_eq_true_iff_forall_mem.1 h4 e he
        simp only [hq.1, Bool.not_true, Bool.false_or] at hon
        rcases hq.2 with h | h
        · subst h; exact .one i o e ho he hq.1
        · exact .more i k o e ho he hq.1 (hd e.on (by simpa using hon) k hk h)
      obtain ⟨q1, q2⟩ := ord_spec rest (i :: done) h3 fun j hj k hk hb => by
        rcases List.mem_cons.1 hj with rfl | hj
        · exact hi k hk hb
        · exact hd j hj k hk hb
      refine ⟨fun j hj k hk hb => ?_, fun j hj => ?_⟩
      · rcases List.mem_cons.1 hj with rfl | hj
        · exact hi k hk hb
        · exact q1 j hj k hk hb
      · rcases q2 j hj with h | h
        · rcases List.mem_cons.1 h with rfl | h
          · exact .inr (by simp)
          · exact .inl h
        · exact .inr (by simp [h])
/-- those that are told are done -/
def FkDone (m : Nat) (done : List Nat) (listed : Array Bool) : Prop := listed.size = m ∧ ∀ j, listed.getD j true = false ↔ (j < m ∧ j ∉ done)
theorem done_set {m k : Nat} {done : List Nat} {listed : Array Bool} (h : FkDone m done listed) (hk : k < m) : FkDone m (k :: done) (listed.setIfInBounds k true) := by
  obtain ⟨h1, h2⟩ := h
  refine ⟨by simp [h1], fun j => ?_⟩
  by_cases hj : k = j
  · subst hj
    have hks : k < listed.size := by rw [h1]; exact hk
    simp [hks]
  · rw [getD_set_ne true hj, h2 j]
    simp only [List.mem_cons, not_or]
    exact ⟨fun ⟨a, b⟩ => ⟨a, fun e => hj e.symm, b⟩, fun ⟨a, _, b⟩ => ⟨a, b⟩⟩
theorem done_true {m : Nat} {done : List Nat} {listed : Array Bool} (h : FkDone m done listed) (j : Nat) : listed.getD j false = true ↔ j < m ∧ j ∈ done := by
  obtain ⟨h1, h2⟩ := h
  have h3 := h2 j
  by_cases hj : j < m
  · have hjs : j < listed.size := by rw [h1]; exact hj
    simp only [Array.getD_eq_getD_getElem?, Array.getElem?_eq_getElem hjs, Option.getD_some] at h3 ⊢
    cases hb : listed[j] with
    | true => rw [hb] at h3; simp [hj] at h3; simp [hj, h3]
    | false => rw [hb] at h3; simp [hj] at h3; simp [h3]
  · have hjs : listed.size ≤ j := by rw [h1]; omega
    simp only [Array.getD_eq_getD_getElem?, Array.getElem?_eq_none hjs, Option.getD_none]
    constructor
    · intro h; cases h
    · rintro ⟨h, _⟩; exact absurd h hj
theorem anyA_lexO {K : Env → AH → Prop} {M : Array Nat} (hR : ∀ j, j < ops.size → ∀ k, k < ops.size → (M.getD j 0).testBit k = true → FkRch ops j k) : ∀ (rest done : List Nat) (listed : Array Bool) (env : Env) (V H : AH), ordOk ops M done rest = true → freeO P ops M rest = true →
    (∀ j ∈ done, ∀ o, ops[j]? = some o → ∀ e ∈ o.after, Region.binds .any e = true → e.on ∈ done) → (∀ j ∈ done, j < ops.size) → FkDone ops.size done listed → seqO P n b ops rest env K V H → anyA P n b ops K rest.length listed env V H
  | [], done, listed, env, V, H, ho, _, _, _, hd, h => by
    refine ⟨?_, h⟩
    rw [List.eq_nil_iff_forall_not_mem]
    intro j hj
    obtain ⟨h1, _⟩ := mem_ready.1 hj
    obtain ⟨h2, h3⟩ := (hd.2 j).1 h1
    have := List.all_eq_true.1 ho j (List.mem_range.2 h2)
    exact h3 (by simpa using this)
  | i :: rest, done, listed, env, V, H, ho, hf, hcl, hlt, hd, h => by
    have hall := (ord_spec (i :: rest) done ho (fun j hj k hk hb => hR j (hlt j hj) k hk hb)).2
    simp only [ordOk, Bool.and_eq_true] at ho
    obtain ⟨⟨h1, h2⟩, h3⟩ := ho
    simp only [freeO, Bool.and_eq_true] at hf
    obtain ⟨f1, f2⟩ := hf
    cases h0 : ops[i]? with
    | none => rw [h0] at h2; cases h2
    | some o =>
      rw [h0] at h2
      simp only [Bool.and_eq_true] at h2
      have hi : i < ops.size := (Array.getElem?_eq_some_iff.1 h0).1
      have hnd : i ∉ done := by simpa using h1
      have hon : ∀ e ∈ o.after, Region.binds .any e = true → e.on ∈ done := fun e he hb => by
        have := Array.all_eq_true_iff_forall_mem.1 h2.1 e he
        simp only [hb, Bool.not_true, Bool.false_or] at this
        simpa using this
      have hready : i ∈ Region.ready .any ops listed := mem_ready.2 ⟨(hd.2 i).2 ⟨hi, hnd⟩, o, h0, fun e he hb => (done_true hd e.on).2 ⟨hlt _ (hon e he hb), hon e he hb⟩⟩
      have hclosed : closedL ops listed := fun j oj hoj hj e he hb => by
        have hj' := (done_true hd j).1 hj
        have := hcl j hj'.2 oj hoj e he hb
        exact (done_true hd e.on).2 ⟨hlt _ this, this⟩
      refine anyA_first (M := M) (fun listed k j hc hk hj hm => ?_) h0 rest.length listed env V H hclosed (fun j oj hoj hji hun hm => ?_) hready ?_
      · obtain ⟨hun, oj, hoj, hall⟩ := mem_ready.1 hj
        have hjs := (Array.getElem?_eq_some_iff.1 hoj).1
        cases hR j hjs k hk hm with
        | one _ o' e q1 q2 q3 => rw [hoj] at q1; injection q1 with q1; subst q1; exact hall e q2 q3
        | more _ _ o' e q1 q2 q3 q4 => rw [hoj] at q1; injection q1 with q1; subst q1; exact rch_listed hc q4 (hall e q2 q3)
      · have hjn := (hd.2 j).1 hun
        rcases hall j hjn.1 with h | h
        · exact absurd h hjn.2
        · rcases List.mem_cons.1 h with h | h
          · exact absurd h hji
          · have := List.all_eq_true.1 f1 j h
            rw [hm, h0, hoj] at this
            simpa using this
      · simp only [opV, h0]
        simp only [seqO, opV, h0] at h
        exact stepV_mono h fun e V' H' hh => anyA_lexO hR rest (i :: done) _ e V' H' h3 f2
          (fun j hj oj hoj e he hb => by
            rcases List.mem_cons.1 hj with rfl | hj
            · rw [h0] at hoj; injection hoj with hoj; subst hoj; exact List.mem_cons_of_mem _ (hon e he hb)
            · exact List.mem_cons_of_mem _ (hcl j hj oj hoj e he hb))
          (fun j hj => by
            rcases List.mem_cons.1 hj with rfl | hj
            · exact hi
            · exact hlt j hj) (done_set hd hi) hh
/-- all orders of a region -/
theorem wp_region_lin {id : Nat} {a : Act} {Q : Exit → Act → World → Prop} (hm : P.follows .mixedOrders = true)
    (h : ∀ L, FkLin ops ops.size (Array.replicate ops.size false) L → wpOps P ops Q L a { w with drawn := w.drawn + 1 }) : (Code.region id ops true).wp P Q a w :=
  wp_region_draw fun t => by
    simp only [Region.schedule, hm, Bool.true_or, if_true]
    exact h _ (lin_go _ _ _)
theorem done_zero (m : Nat) : FkDone m [] (Array.replicate m false) := by
  refine ⟨by simp, fun j => ?_⟩
  by_cases hj : j < m
  · simp [hj]
  · simp [Array.getElem?_eq_none, hj]
theorem fk_lin {B0 : Nat} {Q : Exit → Act → World → Prop} {k : Env → AH → Prop} {env : Env} {a : Act} (hr : RepE n a w S σ env) (hs : Sat P w S σ H) (hB : B0 ≤ H.nx) (hBb : B0 ≤ b)
    (hQ : ∀ a' w' S' σ' env' H', k env' H' → RepE n a' w' S' σ' env' → Sat P w' S' σ' H' → Ext w S σ H w' S' σ' H' → H.nx ≤ H'.nx → (∀ j, j < B0 → σ' j = σ j) → Q .normal a' w') :
    ∀ (t : Fk) (ops : Array Oper), (∀ j, j < ops.size → b + j < H.nx ∧ σ (b + j) = none) → fkOk P ops t = true → fkA P n b env k ops t H → ∀ L, FkLin ops ops.size (Array.replicate ops.size false) L → wpOps P ops Q L a w := by
  intro t
  induction t with
  | leaf ord M =>
    intro ops hres hok h L hL
    simp only [fkOk, Bool.and_eq_true] at hok
    obtain ⟨⟨o1, o2⟩, o3⟩ := hok
    have hlen : ord.length = ops.size := Nat.eq_of_beq_eq_true o1
    have hV : ∃ V : AH, V.le H ∧ seqO P n b ops ord env k V H := by
      unfold fkA at h
      cases ho : hasOld P ops with
      | false => rw [ho] at h; exact ⟨H, AH.le_refl H, h⟩
      | true => rw [ho] at h; obtain ⟨ds, h⟩ := h; exact ⟨_, delL_le ds, h⟩
    obtain ⟨V, hVl, h⟩ := hV
    obtain ⟨s1, s2⟩ := ord_spec ord [] o2 (by simp)
    have hR : ∀ j, j < ops.size → ∀ k, k < ops.size → (M.getD j 0).testBit k = true → FkRch ops j k := fun j hj k hk hb => by
      rcases s2 j hj with h | h
      · cases h
      · exact s1 j h k hk hb
    have h2 := anyA_lexO (K := k) hR ord [] _ env V H o2 o3 (by simp) (by simp) (done_zero ops.size) h
    rw [hlen] at h2
    exact wpAny_lin _ _ L a w (anyA_sound (nd := true) (B0 := B0) (fun _ _ _ _ => rfl) _ _ env V a w S σ H hr hs hVl (fun _ j hj => hres j (((firstK_zero ops.size).2 j).1 hj).2) hB (fun _ => hBb) hQ h2) hL
  | split i j x y ihx ihy =>
    intro ops hres hok h L hL
    simp only [fkOk, Bool.and_eq_true, Bool.not_eq_true'] at hok
    obtain ⟨⟨o1, o2⟩, o3⟩ := hok
    have hij : i ≠ j := fun e => by subst e; rw [Nat.beq_refl] at o1; cases o1
    rcases ahead_or hij _ L _ hL with hA | hA
    · rw [← wpOps_add j i]
      exact ihx _ (by rw [fkAE_size]; exact hres) o2 h.1 L (by rw [fkAE_size]; exact lin_add _ _ _ hL hA)
    · rw [← wpOps_add i j]
      exact ihy _ (by rw [fkAE_size]; exact hres) o3 h.2 L (by rw [fkAE_size]; exact lin_add _ _ _ hL hA)
  | mark i x ihx =>
    intro ops hres hok h L hL
    rw [← wpOps_mk i]
    exact ihx _ (by rw [fkME_size]; exact hres) hok h L (by rw [fkME_size]; exact lin_mk _ _ _ hL)
end
end Go.Proofs.Ytgkkilbeingleaa

/- Whole bodies on abstract memory: branches, blocks, loops, cuts where ways meet; the contract of a function. Nothing of the program is named here. -/
namespace Go.Proofs.Ytgkkilbeingleaa
open Go.RowKit Go.Maps

/-- a function's text, with marks: which variables live on where ways meet -/
inductive AC where
  | skip | ret
  | exit (id : Nat)
  | reg (k : Nat)
  | seq (a b : AC)
  | cut (ws : List Tmp) (ks : List (Nat × Nat)) (a b : AC)
  | cond (c : Operand) (a b : AC)
  | block (id : Nat) (a : AC)
  | loop (ws : List Tmp) (ks : List (Nat × Nat)) (a : AC)
  | scope (a : AC)
  | label (l : Nat)
  | gh (a : AC)
  | fk (k : Nat) (t : Fk)
structure Reg where
  id : Nat
  ops : Array Oper
  draw : Bool
def regsOf : Code → List Reg
  | .region id ops d => [⟨id, ops, d⟩]
  | .seq a b => regsOf a ++ regsOf b
  | .cond _ a b => regsOf a ++ regsOf b
  | .block _ a => regsOf a
  | .loop a => regsOf a
  | .scope a => regsOf a
  | _ => []
def erase (rs : List Reg) : AC → Code
  | .skip => .skip
  | .ret => .ret
  | .exit id => .exit id
  | .reg k => match rs[k]? with
    | some r => .region r.id r.ops r.draw
    | none => .skip
  | .seq a b => .seq (erase rs a) (erase rs b)
  | .cut _ _ a b => .seq (erase rs a) (erase rs b)
  | .cond c a b => .cond c (erase rs a) (erase rs b)
  | .block id a => .block id (erase rs a)
  | .loop _ _ a => .loop (erase rs a)
  | .scope a => .scope (erase rs a)
  | .label l => .label l
  | .gh a => erase rs a
  | .fk k _ => match rs[k]? with
    | some r => .region r.id r.ops r.draw
    | none => .skip
/-- a state is told anew -/
def GW (P : Program) (B : Nat) (vs : List AV) (H1 : AH) (vs' : List AV) (H2 : AH) : Prop := ∀ w S σ us, Sat P w S σ H1 → Rps w S σ vs us →
  ∃ S' σ', Sat P w S' σ' H2 ∧ Rps w S' σ' vs' us ∧ (∀ b, S b → S' b) ∧ (∀ b, S' b → S b ∨ Foot σ H1 b) ∧ (∀ b, Foot σ' H2 b → Foot σ H1 b) ∧ (∀ id, id < B → σ' id = σ id) ∧ B ≤ H2.nx
def Gh (P : Program) (B : Nat) (vs : List AV) (H : AH) (J : List AV → AH → Prop) : Prop := ∃ vs' H2, GW P B vs H vs' H2 ∧ J vs' H2
/-- what is held is told anew: some of it is handed over as data, or let go -/
def Gst (P : Program) (H H2 : AH) : Prop := H.nx ≤ H2.nx ∧ ∀ w S σ, Sat P w S σ H → ∃ S', Sat P w S' σ H2 ∧ (∀ b, S b → S' b) ∧ (∀ b, S' b → S b ∨ Foot σ H b) ∧ (∀ b, Foot σ H2 b → Foot σ H b)
def Gq (P : Program) (F : AH → Prop) (H : AH) : Prop := ∃ H2, Gst P H H2 ∧ F H2
def CutA (P : Program) (m : Nat) (A : (List AV → AH → Prop) → AH → Prop) (K : List AV → AH → Prop) (H : AH) : Prop :=
  ∃ J : List AV → AH → Prop, A (fun vs H' => Gh P H.nx vs H' J) H ∧ ∀ vs H', vs.length = m → H.nx ≤ H'.nx → SatE P H' → J vs H' → K vs H'
def LoopA (P : Program) (m : Nat) (B : List AV → (List AV → AH → Prop) → AH → Prop) (vs0 : List AV) (H : AH) : Prop :=
  ∃ (I : List AV → AH → Prop) (μ : List AV → AH → Nat), Gh P H.nx vs0 H I ∧ ∀ vs H1, vs.length = m → H.nx ≤ H1.nx → SatE P H1 → I vs H1 → B vs (fun vs' H' => Gh P H.nx vs' H' (fun vs2 H2 => I vs2 H2 ∧ μ vs2 H2 < μ vs H1)) H1
def idxOf (t : Nat) : List Nat → Nat → Option Nat
  | [], _ => none
  | x :: r, i => bif Nat.beq t x then some i else idxOf t r (i + 1)
def inIv (ks : List (Nat × Nat)) (t : Nat) : Bool := ks.any fun p => Nat.ble p.1 t && Nat.blt t p.2
def ovr (env : Env) (ws : List Tmp) (ks : List (Nat × Nat)) (vs : List AV) : Env := fun t => match idxOf t ws 0 with
  | some i => vs.getD i .any
  | none => bif inIv ks t then .any else env t
def CdA (c : AV) (X Y : AH → Prop) (H : AH) : Prop := ∃ b, c = .p (.bool b) ∧ (b = true → X H) ∧ (b = false → Y H)
def needsR (P : Program) (d : Bool) (ops : Array Oper) : Bool := ops.toList.any fun o => bif d then needV P ops o.op else needC (cls P o.op)
def regB (P : Program) (n b : Nat) (r : Reg) (env : Env) (k : Env → AH → Prop) : AH → Prop :=
  bif r.draw then (bif hasOld P r.ops then VwD (fun V => seqV P n b r.ops r.ops.toList 0 env k V) else Vw (fun V => seqV P n b r.ops r.ops.toList 0 env k V)) else seqA P n b r.ops r.ops.toList 0 env k
def regA (P : Program) (n : Nat) (r : Reg) (env : Env) (k : Env → AH → Prop) : AH → Prop :=
  bif needsR P r.draw r.ops then Rg r.ops.size (fun b => regB P n b r env k) else regB P n 0 r env k
/-- a drawn region told once for each way in which some of its operations come one ahead of the other -/
def fkR (P : Program) (n : Nat) (r : Reg) (t : Fk) (env : Env) (k : Env → AH → Prop) : AH → Prop := Rg r.ops.size (fun b => fkA P n b env k r.ops t)
def Knt := Exit → Env → AH → Prop
def thenK (k : Env → AH → Prop) (K : Knt) : Knt
  | .normal, env, H => k env H
  | e, env, H => K e env H
def blockK (id : Nat) (K : Knt) : Knt
  | .exit id', env, H => if id' = id then K .normal env H else K (.exit id') env H
  | e, env, H => K e env H
def scopeK (K : Knt) : Knt
  | .goto _, _, _ => False
  | e, env, H => K e env H
def wpA (P : Program) (n : Nat) (rs : List Reg) : AC → Env → Knt → AH → Prop
  | .skip, env, K => K .normal env
  | .ret, env, K => K .ret env
  | .exit id, env, K => K (.exit id) env
  | .label _, env, K => K .normal env
  | .reg k, env, K => match rs[k]? with
    | some r => regA P n r env (K .normal)
    | none => K .normal env
  | .seq a b, env, K => wpA P n rs a env (thenK (fun env' => wpA P n rs b env' K) K)
  | .cut ws ks a b, env, K => CutA P ws.length (fun k => wpA P n rs a env (thenK (fun env' => k (ws.map env')) K)) (fun vs => wpA P n rs b (ovr env ws ks vs) K)
  | .cond c a b, env, K => CdA (ev0 env c) (wpA P n rs a env K) (wpA P n rs b env K)
  | .block id a, env, K => wpA P n rs a env (blockK id K)
  | .loop ws ks a, env, K => LoopA P ws.length (fun vs k => wpA P n rs a (ovr env ws ks vs) (thenK (fun env' => k (ws.map env')) K)) (ws.map env)
  | .scope a, env, K => wpA P n rs a env (scopeK K)
  | .gh a, env, K => Gq P (wpA P n rs a env K)
  | .fk k t, env, K => match rs[k]? with
    | some r => fkR P n r t env (K .normal)
    | none => K .normal env
/-- is all that is written told -/
def wrIn (rs : List Reg) (ok : Tmp → Bool) : AC → Bool
  | .reg k => match rs[k]? with
    | some r => r.ops.toList.all fun o => match o.dst with
      | some d => ok d
      | none => true
    | none => true
  | .seq a b | .cond _ a b => wrIn rs ok a && wrIn rs ok b
  | .cut ws ks a b => wrIn rs ok a && wrIn rs ok b && ws.all ok && ks.all (fun p => (List.range (p.2 - p.1)).all fun k => ok (p.1 + k))
  | .loop ws ks a => wrIn rs ok a && ws.all ok && ks.all (fun p => (List.range (p.2 - p.1)).all fun k => ok (p.1 + k))
  | .block _ a | .scope a | .gh a => wrIn rs ok a
  | .fk k _ => match rs[k]? with
    | some r => r.ops.toList.all fun o => match o.dst with
      | some d => ok d
      | none => true
    | none => true
  | _ => true
def inW (ws : List Tmp) (ks : List (Nat × Nat)) (t : Tmp) : Bool := (idxOf t ws 0).isSome || inIv ks t
def marksOk (P : Program) (rs : List Reg) (Ms : List (Array Nat)) : AC → Bool
  | .reg k => match rs[k]? with
    | some r => !r.draw || (maskOk r.ops (Ms.getD k #[]) && freeOk P r.ops (Ms.getD k #[]))
    | none => true
  | .seq a b | .cond _ a b => marksOk P rs Ms a && marksOk P rs Ms b
  | .cut ws ks a b => wrIn rs (inW ws ks) a && marksOk P rs Ms a && marksOk P rs Ms b
  | .loop ws ks a => wrIn rs (inW ws ks) a && marksOk P rs Ms a
  | .block _ a | .scope a | .gh a => marksOk P rs Ms a
  | .fk k t => match rs[k]? with
    | some r => r.draw && fkOk P r.ops t
    | none => true
  | _ => true
end Go.Proofs.Ytgkkilbeingleaa

/- Whole bodies on abstract memory: what is told holds of the model. Nothing of the program is named here. -/
namespace Go.Proofs.Ytgkkilbeingleaa
open Go.RowKit Go.Maps

section
variable {P : Program} {w : World} {S : Nat → Prop} {σ : Nat → Option Value} {H V : AH} {n b : Nat} {ops : Array Oper} {rs : List Reg} {ok : Tmp → Bool}
def Same (ok : Tmp → Bool) (env env' : Env) : Prop := ∀ t, ok t = false → env' t = env t
theorem Same.refl (env : Env) : Same ok env env := fun _ _ => rfl
theorem Same.trans {a b c : Env} (h : Same ok a b) (k : Same ok b c) : Same ok a c := fun t ht => (k t ht).trans (h t ht)
theorem Same.set {env : Env} {dst : Option Tmp} {a : AV} (h : ∀ d, dst = some d → ok d = true) : Same ok env (setE n env dst a) := by
  intro t ht
  cases dst with
  | none => rfl
  | some d =>
    have hne : t ≠ d := fun e => by subst e; rw [h t rfl] at ht; cases ht
    simp only [setE]
    cases Nat.blt d n
    · rfl
    · simp only [cond_true]
      rw [show Nat.beq t d = false from by rw [Bool.eq_false_iff]; exact fun e => hne (Nat.eq_of_beq_eq_true e)]
      rfl
theorem coreS_mono {id : Nat} {o : Op} {env : Env} {k k' : AV → AH → Prop} (h : coreS P id o env k H) (hk : ∀ x H, k x H → k' x H) : coreS P id o env k' H := by
  unfold coreS at h ⊢
  cases hc : cls P o <;> rw [hc] at h <;> dsimp only at h ⊢
  · exact hk _ _ h
  · obtain ⟨a, h1, h2⟩ := h; exact ⟨a, h1, hk _ _ h2⟩
  · obtain ⟨a, h1, h2⟩ := h; exact ⟨a, h1, hk _ _ h2⟩
  · unfold alS at h ⊢
    split at h
    · obtain ⟨Q, h1, h2⟩ := h; exact ⟨Q, h1, fun a H' hq => hk _ _ (h2 a H' hq)⟩
    · obtain ⟨a, o', h1, h2⟩ := h; exact ⟨a, o', h1, hk _ _ h2⟩
  · obtain ⟨a, H', h1, h2⟩ := h; exact ⟨a, H', h1, hk _ _ h2⟩
  · obtain ⟨g, first, cap, Q, h1, h2, h3, h4⟩ := h; exact ⟨g, first, cap, Q, h1, h2, h3, fun r H' hs hq => hk _ _ (h4 r H' hs hq)⟩
  · obtain ⟨Q, h1, h2⟩ := h; exact ⟨Q, h1, fun a H' hq => hk _ _ (h2 a H' hq)⟩
theorem seqA_frame : ∀ (l : List Oper) (i : Nat) (env : Env) (k : Env → AH → Prop) (H : AH), (∀ o ∈ l, ∀ d, o.dst = some d → ok d = true) → seqA P n b ops l i env k H → seqA P n b ops l i env (fun env' H' => k env' H' ∧ Same ok env env') H
  | [], i, env, k, H, _, h => ⟨h, .refl _⟩
  | o :: rest, i, env, k, H, ho, h => by
    have step : ∀ x H, seqA P n b ops rest (i + 1) (setE n env o.dst x) k H → seqA P n b ops rest (i + 1) (setE n env o.dst x) (fun env' H' => k env' H' ∧ Same ok env env') H := by
      intro x H h
      have h1 := seqA_frame rest (i + 1) _ k H (fun o' ho' => ho o' (by simp [ho'])) h
      have h2 : Same ok env (setE n env o.dst x) := .set (ho o (by simp))
      exact seqA_mono rest (i + 1) _ _ _ H h1 (fun e H ⟨q1, q2⟩ => ⟨q1, h2.trans q2⟩)
    simp only [seqA] at h ⊢
    cases hg : o.guard with
    | none => rw [hg] at h; exact coreS_mono h step
    | some g =>
      obtain ⟨j, want⟩ := g
      rw [hg] at h
      obtain ⟨c, hc, h1, h2⟩ := h
      exact ⟨c, hc, fun hw => coreS_mono (h1 hw) step, fun hw => step _ _ (h2 hw)⟩
where
  seqA_mono : ∀ (l : List Oper) (i : Nat) (env : Env) (k k' : Env → AH → Prop) (H : AH), seqA P n b ops l i env k H → (∀ e H, k e H → k' e H) → seqA P n b ops l i env k' H
  | [], i, env, k, k', H, h, hk => hk _ _ h
  | o :: rest, i, env, k, k', H, h, hk => by
    simp only [seqA] at h ⊢
    cases hg : o.guard with
    | none => rw [hg] at h; exact coreS_mono h fun x H h => seqA_mono rest (i + 1) _ k k' H h hk
    | some g =>
      obtain ⟨j, want⟩ := g
      rw [hg] at h
      obtain ⟨c, hc, h1, h2⟩ := h
      exact ⟨c, hc, fun hw => coreS_mono (h1 hw) fun x H h => seqA_mono rest (i + 1) _ k k' H h hk, fun hw => seqA_mono rest (i + 1) _ k k' H (h2 hw) hk⟩
theorem seqV_mono : ∀ (l : List Oper) (i : Nat) (env : Env) (k k' : Env → AH → Prop) (V H : AH), seqV P n b ops l i env k V H → (∀ e H, k e H → k' e H) → seqV P n b ops l i env k' V H
  | [], i, env, k, k', V, H, h, hk => hk _ _ h
  | o :: rest, i, env, k, k', V, H, h, hk => by
    simp only [seqV] at h ⊢
    exact stepV_mono h fun e V H h => seqV_mono rest (i + 1) _ k k' V H h hk
theorem seqV_frame : ∀ (l : List Oper) (i : Nat) (env : Env) (k : Env → AH → Prop) (V H : AH), (∀ o ∈ l, ∀ d, o.dst = some d → ok d = true) → seqV P n b ops l i env k V H → seqV P n b ops l i env (fun env' H' => k env' H' ∧ Same ok env env') V H
  | [], i, env, k, V, H, _, h => ⟨h, .refl _⟩
  | o :: rest, i, env, k, V, H, ho, h => by
    simp only [seqV] at h ⊢
    have h4 : ∀ x, Same ok env (setE n env o.dst x) := fun x => .set (ho o (by simp))
    exact stepV_mono2 h fun x V' H' h2 => seqV_mono rest (i + 1) _ _ _ V' H' (seqV_frame rest (i + 1) _ k V' H' (fun o' ho' => ho o' (by simp [ho'])) h2) (fun e H ⟨q1, q2⟩ => ⟨q1, (h4 x).trans q2⟩)
theorem regB_frame {r : Reg} {env : Env} {k : Env → AH → Prop} (ho : ∀ o ∈ r.ops.toList, ∀ d, o.dst = some d → ok d = true) (h : regB P n b r env k H) : regB P n b r env (fun env' H' => k env' H' ∧ Same ok env env') H := by
  unfold regB at h ⊢
  cases hd : r.draw <;> rw [hd] at h
  · exact seqA_frame _ _ _ _ _ ho h
  · cases hh : hasOld P r.ops <;> rw [hh] at h
    · exact seqV_frame _ _ _ _ _ _ ho h
    · obtain ⟨ds, h⟩ := h; exact ⟨ds, seqV_frame _ _ _ _ _ _ ho h⟩
theorem regB_mono {r : Reg} {env : Env} {k k' : Env → AH → Prop} (h : regB P n b r env k H) (hk : ∀ e H, k e H → k' e H) : regB P n b r env k' H := by
  unfold regB at h ⊢
  cases hd : r.draw <;> rw [hd] at h
  · exact seqA_frame.seqA_mono _ _ _ _ _ _ h hk
  · cases hh : hasOld P r.ops <;> rw [hh] at h
    · exact seqV_mono _ _ _ _ _ _ _ h hk
    · obtain ⟨ds, h⟩ := h; exact ⟨ds, seqV_mono _ _ _ _ _ _ _ h hk⟩
theorem regA_mono {r : Reg} {env : Env} {k k' : Env → AH → Prop} (h : regA P n r env k H) (hk : ∀ e H, k e H → k' e H) : regA P n r env k' H := by
  unfold regA at h ⊢
  cases hd : needsR P r.draw r.ops <;> rw [hd] at h
  · exact regB_mono h hk
  · exact regB_mono (H := H.up r.ops.size) h hk
theorem regA_frame {r : Reg} {env : Env} {k : Env → AH → Prop} (ho : ∀ o ∈ r.ops.toList, ∀ d, o.dst = some d → ok d = true) (h : regA P n r env k H) : regA P n r env (fun env' H' => k env' H' ∧ Same ok env env') H := by
  unfold regA at h ⊢
  cases hd : needsR P r.draw r.ops <;> rw [hd] at h
  · exact regB_frame ho h
  · exact regB_frame (H := H.up r.ops.size) ho h
theorem opV_mono2 {i : Nat} {env : Env} {k k' : Env → AH → AH → Prop} (h : opV P n b ops i env V k H) (ho : ∀ o, ops[i]? = some o → ∀ d, o.dst = some d → ok d = true) (hk : ∀ e V H, Same ok env e → k e V H → k' e V H) : opV P n b ops i env V k' H := by
  unfold opV at h ⊢
  cases hi : ops[i]? with
  | none => rw [hi] at h; exact hk _ _ _ (.refl _) h
  | some o => rw [hi] at h; exact stepV_mono2 h fun x V H h => hk _ _ _ (.set (ho o hi)) h
theorem seqO_mono : ∀ (l : List Nat) (env : Env) (k k' : Env → AH → Prop) (V H : AH), seqO P n b ops l env k V H → (∀ e H, k e H → k' e H) → seqO P n b ops l env k' V H
  | [], env, k, k', V, H, h, hk => hk _ _ h
  | i :: l, env, k, k', V, H, h, hk => opV_mono (k := fun env' V' H' => seqO P n b ops l env' k V' H') h fun e V H h => seqO_mono l e k k' V H h hk
theorem seqO_frame (ho : ∀ (i : Nat) (o : Oper), ops[i]? = some o → ∀ d, o.dst = some d → ok d = true) : ∀ (l : List Nat) (env : Env) (k : Env → AH → Prop) (V H : AH), seqO P n b ops l env k V H → seqO P n b ops l env (fun env' H' => k env' H' ∧ Same ok env env') V H
  | [], env, k, V, H, h => ⟨h, .refl _⟩
  | i :: l, env, k, V, H, h => opV_mono2 (k := fun env' V' H' => seqO P n b ops l env' k V' H') h (ho i) fun e V H hs h => seqO_mono l e _ _ V H (seqO_frame ho l e k V H h) fun _ _ ⟨q1, q2⟩ => ⟨q1, hs.trans q2⟩
theorem fkA_mono {env : Env} {k k' : Env → AH → Prop} (hk : ∀ e H, k e H → k' e H) : ∀ (t : Fk) (ops : Array Oper), fkA P n b env k ops t H → fkA P n b env k' ops t H := by
  intro t
  induction t with
  | leaf ord M =>
    intro ops h
    unfold fkA at h ⊢
    cases hh : hasOld P ops <;> rw [hh] at h
    · exact seqO_mono _ _ _ _ _ _ h hk
    · obtain ⟨ds, h⟩ := h; exact ⟨ds, seqO_mono _ _ _ _ _ _ h hk⟩
  | split i j x y ihx ihy => exact fun ops h => ⟨ihx _ h.1, ihy _ h.2⟩
  | mark i x ihx => exact fun ops h => ihx _ h
theorem add_ok {j i : Nat} (ho : ∀ (i : Nat) (o : Oper), ops[i]? = some o → ∀ d, o.dst = some d → ok d = true) : ∀ (k : Nat) (o : Oper), (fkAE ops j i)[k]? = some o → ∀ d, o.dst = some d → ok d = true := by
  intro k o hk d hd
  rw [fkAE_get] at hk
  cases h : ops[k]? with
  | none => rw [h] at hk; cases hk
  | some o' =>
    rw [h] at hk
    simp only [Option.map_some, Option.some.injEq] at hk
    subst hk
    rw [(fkJ_op j i k o').2.1] at hd
    exact ho k o' h d hd
theorem mk_ok {i : Nat} (ho : ∀ (i : Nat) (o : Oper), ops[i]? = some o → ∀ d, o.dst = some d → ok d = true) : ∀ (k : Nat) (o : Oper), (fkME ops i)[k]? = some o → ∀ d, o.dst = some d → ok d = true := by
  intro k o hk d hd
  rw [fkME_get] at hk
  cases h : ops[k]? with
  | none => rw [h] at hk; cases hk
  | some o' =>
    rw [h] at hk
    simp only [Option.map_some, Option.some.injEq] at hk
    subst hk
    rw [(fkM_op i k o').2.1] at hd
    exact ho k o' h d hd
theorem fkA_frame {env : Env} {k : Env → AH → Prop} : ∀ (t : Fk) (ops : Array Oper), (∀ (i : Nat) (o : Oper), ops[i]? = some o → ∀ d, o.dst = some d → ok d = true) → fkA P n b env k ops t H → fkA P n b env (fun env' H' => k env' H' ∧ Same ok env env') ops t H := by
  intro t
  induction t with
  | leaf ord M =>
    intro ops ho h
    unfold fkA at h ⊢
    cases hh : hasOld P ops <;> rw [hh] at h
    · exact seqO_frame ho _ _ _ _ _ h
    · obtain ⟨ds, h⟩ := h; exact ⟨ds, seqO_frame ho _ _ _ _ _ h⟩
  | split i j x y ihx ihy => exact fun ops ho h => ⟨ihx _ (add_ok ho) h.1, ihy _ (add_ok ho) h.2⟩
  | mark i x ihx => exact fun ops ho h => ihx _ (mk_ok ho) h
theorem fkR_mono {r : Reg} {t : Fk} {env : Env} {k k' : Env → AH → Prop} (h : fkR P n r t env k H) (hk : ∀ e H, k e H → k' e H) : fkR P n r t env k' H := fkA_mono (H := H.up r.ops.size) hk t _ h
theorem fkR_frame {r : Reg} {t : Fk} {env : Env} {k : Env → AH → Prop} (ho : ∀ o ∈ r.ops.toList, ∀ d, o.dst = some d → ok d = true) (h : fkR P n r t env k H) : fkR P n r t env (fun env' H' => k env' H' ∧ Same ok env env') H :=
  fkA_frame (H := H.up r.ops.size) t _ (fun i o hi => ho o (by rw [← Array.getElem?_toList] at hi; exact List.mem_of_getElem? hi)) h
theorem wpA_mono : ∀ (c : AC) (env : Env) (K K' : Knt) (H : AH), wpA P n rs c env K H → (∀ e env H, K e env H → K' e env H) → wpA P n rs c env K' H := by
  intro c
  induction c with
  | skip => exact fun env K K' H h hk => hk _ _ _ h
  | ret => exact fun env K K' H h hk => hk _ _ _ h
  | exit id => exact fun env K K' H h hk => hk _ _ _ h
  | label l => exact fun env K K' H h hk => hk _ _ _ h
  | reg k =>
    intro env K K' H h hk
    simp only [wpA] at h ⊢
    cases hr : rs[k]? with
    | none => rw [hr] at h; exact hk _ _ _ h
    | some r => rw [hr] at h; exact regA_mono h fun e H h => hk _ _ _ h
  | seq a b iha ihb =>
    intro env K K' H h hk
    exact iha env _ _ H h fun e env H h => by cases e <;> first | exact ihb _ _ _ _ h hk | exact hk _ _ _ h
  | cut ws ks a b iha ihb =>
    intro env K K' H h hk
    obtain ⟨J, h1, h2⟩ := h
    exact ⟨J, iha env _ _ H h1 fun e env H h => by cases e <;> first | exact h | exact hk _ _ _ h, fun vs H' hl hn hs hj => ihb _ _ _ _ (h2 vs H' hl hn hs hj) hk⟩
  | cond c a b iha ihb =>
    intro env K K' H h hk
    obtain ⟨c, h1, h2, h3⟩ := h
    exact ⟨c, h1, fun hc => iha _ _ _ _ (h2 hc) hk, fun hc => ihb _ _ _ _ (h3 hc) hk⟩
  | block id a iha =>
    intro env K K' H h hk
    refine iha env _ _ H h fun e env H h => ?_
    cases e <;> first | exact hk _ _ _ h | skip
    simp only [blockK] at h ⊢
    split at h
    · rename_i hi; rw [if_pos hi]; exact hk _ _ _ h
    · rename_i hi; rw [if_neg hi]; exact hk _ _ _ h
  | loop ws ks a iha =>
    intro env K K' H h hk
    obtain ⟨I, μ, h1, h2⟩ := h
    exact ⟨I, μ, h1, fun vs H1 hl hn hs hi => iha _ _ _ _ (h2 vs H1 hl hn hs hi) fun e env H h => by cases e <;> first | exact h | exact hk _ _ _ h⟩
  | scope a iha =>
    intro env K K' H h hk
    exact iha env _ _ H h fun e env H h => by cases e <;> first | exact h.elim | exact hk _ _ _ h
  | gh a iha =>
    intro env K K' H h hk
    obtain ⟨H2, h1, h2⟩ := h
    exact ⟨H2, h1, iha _ _ _ _ h2 hk⟩
  | fk k t =>
    intro env K K' H h hk
    simp only [wpA] at h ⊢
    cases hr : rs[k]? with
    | none => rw [hr] at h; exact hk _ _ _ h
    | some r => rw [hr] at h; exact fkR_mono h fun e H h => hk _ _ _ h
theorem idx_mem : ∀ {l : List Nat} {t i j : Nat}, idxOf t l i = some j → i ≤ j ∧ l[j - i]? = some t
  | [], t, i, j, h => by cases h
  | x :: r, t, i, j, h => by
    unfold idxOf at h
    cases hb : Nat.beq t x <;> rw [hb] at h <;> simp only [cond_true, cond_false] at h
    · obtain ⟨h1, h2⟩ := idx_mem h
      refine ⟨by omega, ?_⟩
      rw [show j - i = (j - (i + 1)) + 1 by omega, List.getElem?_cons_succ]; exact h2
    · injection h with h
      subst h
      have := Nat.eq_of_beq_eq_true hb
      subst this
      exact ⟨Nat.le_refl _, by simp⟩
theorem ovr_same {env : Env} {ws : List Tmp} {ks : List (Nat × Nat)} {vs : List AV} (h1 : ws.all ok = true) (h2 : ks.all (fun p => (List.range (p.2 - p.1)).all fun k => ok (p.1 + k)) = true) : Same ok env (ovr env ws ks vs) := by
  intro t ht
  unfold ovr
  cases hi' : idxOf t ws 0 with
  | some i =>
    obtain ⟨_, h3⟩ := idx_mem hi'
    have := List.all_eq_true.1 h1 t (List.mem_of_getElem? h3)
    rw [this] at ht; cases ht
  | none =>
    dsimp only
    cases hb : inIv ks t with
    | false => rfl
    | true =>
      unfold inIv at hb
      obtain ⟨p, hp, hb⟩ := List.any_eq_true.1 hb
      simp only [Bool.and_eq_true, Nat.ble_eq, Nat.blt_eq] at hb
      have := List.all_eq_true.1 (List.all_eq_true.1 h2 p hp) (t - p.1) (List.mem_range.2 (by omega))
      rw [show p.1 + (t - p.1) = t by omega, ht] at this
      cases this
theorem wpA_frame : ∀ (c : AC) (env : Env) (K : Knt) (H : AH), wrIn rs ok c = true → wpA P n rs c env K H → wpA P n rs c env (fun e env' H' => K e env' H' ∧ Same ok env env') H := by
  intro c
  induction c with
  | skip => exact fun env K H _ h => ⟨h, .refl _⟩
  | ret => exact fun env K H _ h => ⟨h, .refl _⟩
  | exit id => exact fun env K H _ h => ⟨h, .refl _⟩
  | label l => exact fun env K H _ h => ⟨h, .refl _⟩
  | reg k =>
    intro env K H hw h
    simp only [wpA, wrIn] at h hw ⊢
    cases hr : rs[k]? with
    | none => rw [hr] at h; exact ⟨h, .refl _⟩
    | some r =>
      rw [hr] at h hw
      refine regA_frame (fun o ho d hd => ?_) h
      have := List.all_eq_true.1 hw o ho
      rw [hd] at this
      exact this
  | seq a b iha ihb =>
    intro env K H hw h
    simp only [wrIn, Bool.and_eq_true] at hw
    refine wpA_mono a env _ _ H (iha env _ H hw.1 h) fun e env1 H1 ⟨h1, h2⟩ => ?_
    cases e <;> first | exact wpA_mono b env1 _ _ H1 (ihb env1 _ H1 hw.2 h1) (fun e2 env2 H2 ⟨q1, q2⟩ => ⟨q1, h2.trans q2⟩) | exact ⟨h1, h2⟩
  | cut ws ks a b iha ihb =>
    intro env K H hw h
    simp only [wrIn, Bool.and_eq_true] at hw
    obtain ⟨⟨⟨w1, w2⟩, w3⟩, w4⟩ := hw
    obtain ⟨J, h1, h2⟩ := h
    refine ⟨J, wpA_mono a env _ _ H (iha env _ H w1 h1) (fun e env1 H1 ⟨h1, h2⟩ => by cases e <;> first | exact h1 | exact ⟨h1, h2⟩), fun vs H' hl hn hs hj => ?_⟩
    exact wpA_mono b _ _ _ H' (ihb _ _ H' w2 (h2 vs H' hl hn hs hj)) fun e2 env2 H2 ⟨q1, q2⟩ => ⟨q1, (ovr_same w3 w4).trans q2⟩
  | cond c a b iha ihb =>
    intro env K H hw h
    simp only [wrIn, Bool.and_eq_true] at hw
    obtain ⟨c, h1, h2, h3⟩ := h
    exact ⟨c, h1, fun hc => iha _ _ _ hw.1 (h2 hc), fun hc => ihb _ _ _ hw.2 (h3 hc)⟩
  | block id a iha =>
    intro env K H hw h
    refine wpA_mono a env _ _ H (iha env _ H hw h) fun e env1 H1 ⟨h1, h2⟩ => ?_
    cases e <;> first | exact ⟨h1, h2⟩ | skip
    simp only [blockK] at h1 ⊢
    split at h1
    · rename_i hi; rw [if_pos hi]; exact ⟨h1, h2⟩
    · rename_i hi; rw [if_neg hi]; exact ⟨h1, h2⟩
  | loop ws ks a iha =>
    intro env K H hw h
    simp only [wrIn, Bool.and_eq_true] at hw
    obtain ⟨⟨w1, w3⟩, w4⟩ := hw
    obtain ⟨I, μ, h1, h2⟩ := h
    refine ⟨I, μ, h1, fun vs H1 hl hn hs hi => wpA_mono a _ _ _ H1 (iha _ _ H1 w1 (h2 vs H1 hl hn hs hi)) fun e env1 H1 ⟨q1, q2⟩ => ?_⟩
    cases e <;> first | exact q1 | exact ⟨q1, (ovr_same w3 w4).trans q2⟩
  | scope a iha =>
    intro env K H hw h
    exact wpA_mono a env _ _ H (iha env _ H hw h) fun e env H ⟨h1, h2⟩ => by cases e <;> first | exact h1.elim | exact ⟨h1, h2⟩
  | gh a iha =>
    intro env K H hw h
    obtain ⟨H2, h1, h2⟩ := h
    exact ⟨H2, h1, iha _ _ _ hw h2⟩
  | fk k t =>
    intro env K H hw h
    simp only [wpA, wrIn] at h hw ⊢
    cases hr : rs[k]? with
    | none => rw [hr] at h; exact ⟨h, .refl _⟩
    | some r =>
      rw [hr] at h hw
      refine fkR_frame (fun o ho d hd => ?_) h
      have := List.all_eq_true.1 hw o ho
      rw [hd] at this
      exact this
end
end Go.Proofs.Ytgkkilbeingleaa

/- Whole bodies on abstract memory: what is told holds of the model; the contract of a function. Nothing of the program is named here. -/
namespace Go.Proofs.Ytgkkilbeingleaa
open Go.RowKit Go.Maps

section
variable {P : Program} {w : World} {S : Nat → Prop} {σ : Nat → Option Value} {H V : AH} {n b : Nat} {ops : Array Oper} {rs : List Reg} {Ms : List (Array Nat)}
/-- what is named lies below -/
def Scp (B : Nat) (a : AV) : Prop := ∃ w S σ v, Rp w S σ a v ∧ ∀ id u, σ id = some u → id < B
theorem Scp.comps {B : Nat} {cs : List AV} {w : World} {S : Nat → Prop} {σ : Nat → Option Value} {vs : List Value} (h : Rps w S σ cs vs) (hb : ∀ id u, σ id = some u → id < B) : ∀ a ∈ cs, Scp B a := by
  intro a ha
  obtain ⟨i, hi⟩ := List.getElem?_of_mem ha
  obtain ⟨v, _, hr⟩ := h.at_ hi
  exact ⟨w, S, σ, v, hr, hb⟩
theorem Rp.re {S2 : Nat → Prop} {σ2 : Nat → Option Value} {B : Nat} {a : AV} {v : Value} (h : Rp w S σ a v) (hS : ∀ b, S b → S2 b) (hσ : ∀ id, id < B → σ2 id = σ id) : Scp B a → Rp w S2 σ2 a v := by
  induction h with
  | any v => exact fun _ => .any v
  | data a v h => exact fun _ => .data _ _ (h.mono hS (fun _ _ => rfl))
  | agg cs vs hl _ h1 ih =>
    rintro ⟨w0, S0, σ0, v0, hr, hb⟩
    obtain ⟨us, _, q, _⟩ := hr.agg_inv
    exact .agg cs vs hl (fun i a v ha hv => ih i a v ha hv (Scp.comps q hb a (List.mem_of_getElem? ha))) h1
  | tup cs vs hl _ ih =>
    rintro ⟨w0, S0, σ0, v0, hr, hb⟩
    obtain ⟨us, _, q⟩ := hr.tup_inv
    exact .tup cs vs hl (fun i a v ha hv => ih i a v ha hv (Scp.comps q hb a (List.mem_of_getElem? ha)))
  | dptr sz xs i j g o c h hi => exact fun _ => .dptr sz xs i j g o c (h.mono hS (fun _ _ => rfl)) hi
  | ptr id off g h =>
    rintro ⟨w0, S0, σ0, v0, hr, hb⟩
    obtain ⟨_, _, q⟩ := hr.ptr_inv
    exact .ptr id off g ((hσ id (hb _ _ q)).trans h)
  | eptr id sz i j g o n c h =>
    rintro ⟨w0, S0, σ0, v0, hr, hb⟩
    obtain ⟨_, _, _, _, _, q⟩ := hr.eptr_inv
    exact .eptr id sz i j g o n c ((hσ id (hb _ _ q)).trans h)
  | osl id sz off n A B' N c cc h h1 h2 h3 =>
    rintro ⟨w0, S0, σ0, v0, hr, hb⟩
    obtain ⟨_, _, _, _, _, _, q, _⟩ := hr.osl_inv
    exact .osl id sz off n A B' N c cc ((hσ id (hb _ _ q)).trans h) h1 h2 h3
  | mp id g h =>
    rintro ⟨w0, S0, σ0, v0, hr, hb⟩
    obtain ⟨_, _, q⟩ := hr.mp_inv
    exact .mp id g ((hσ id (hb _ _ q)).trans h)
  | fn f first captured fs cs h1 h2 _ _ ih1 ih2 =>
    rintro ⟨w0, S0, σ0, v0, hr, hb⟩
    obtain ⟨_, _, _, q1, q2⟩ := hr.fn_inv
    exact .fn f first captured fs cs h1 h2 (fun i a v ha hv => ih1 i a v ha hv (Scp.comps q1 hb a (List.mem_of_getElem? ha))) (fun i a v ha hv => ih2 i a v ha hv (Scp.comps q2 hb a (List.mem_of_getElem? ha)))
/-- how things stand, told -/
def St (P : Program) (n : Nat) (w0 : World) (S0 : Nat → Prop) (σ0 : Nat → Option Value) (H0 : AH) (K : Env → AH → Prop) (a' : Act) (w' : World) : Prop :=
  ∃ env' H' S' σ', K env' H' ∧ RepE n a' w' S' σ' env' ∧ Sat P w' S' σ' H' ∧ Ext w0 S0 σ0 H0 w' S' σ' H' ∧ H0.nx ≤ H'.nx ∧ ∀ j, j < H0.nx → σ' j = σ0 j
theorem Sat.up (hs : Sat P w S σ H) (m : Nat) : Sat P w S σ (H.up m) := hs.congr (fun _ => rfl) (Nat.le_add_right _ _)
theorem Ext.ofUp {w' : World} {S' : Nat → Prop} {σ' : Nat → Option Value} {H' : AH} {m : Nat} (h : Ext w S σ (H.up m) w' S' σ' H') : Ext w S σ H w' S' σ' H' := ⟨h.os, h.tape, h.output, h.size, h.keep, h.sup, h.sub, h.foot, h.sig⟩
theorem RepE.world {a : Act} {env : Env} {w1 : World} (h : RepE n a w S σ env) (hw : w1.heap = w.heap) : RepE n a w1 S σ env := ⟨h.size, h.defers, fun t => (h.at_ t).world hw⟩
theorem regB_sound {r : Reg} {nd : Bool} {B0 : Nat} (hm : P.follows .mixedOrders = true) {M : Array Nat} (hM : r.draw = true → maskOk r.ops M = true ∧ freeOk P r.ops M = true) (hnd : ∀ o ∈ r.ops.toList, (bif r.draw then needV P r.ops o.op else needC (cls P o.op)) = true → nd = true)
    {Q : Exit → Act → World → Prop} {env : Env} {k : Env → AH → Prop} {a : Act} (hr : RepE n a w S σ env) (hs : Sat P w S σ H) (hres : nd = true → ∀ j, j < r.ops.size → b + j < H.nx ∧ σ (b + j) = none) (hB : B0 ≤ H.nx) (hBb : nd = true → B0 ≤ b)
    (hQ : ∀ a' w' S' σ' env' H', k env' H' → RepE n a' w' S' σ' env' → Sat P w' S' σ' H' → Ext w S σ H w' S' σ' H' → H.nx ≤ H'.nx → (∀ j, j < B0 → σ' j = σ j) → Q .normal a' w') (h : regB P n b r env k H) : (Code.region r.id r.ops r.draw).wp P Q a w := by
  unfold regB at h
  cases hd : r.draw with
  | false =>
    rw [hd] at h hnd
    simp only [cond_false] at hnd
    simp only [cond_false] at h
    exact wp_region_list (seqA_sound (nd := nd) _ 0 env k a w S σ H hr hs hnd (fun hn j _ hj => hres hn j (by simpa using hj)) hB hBb hQ h)
  | true =>
    rw [hd] at h hnd
    simp only [cond_true] at hnd
    simp only [cond_true] at h
    have hV : ∃ V : AH, V.le H ∧ seqV P n b r.ops r.ops.toList 0 env k V H := by
      cases ho : hasOld P r.ops with
      | false => rw [ho] at h; exact ⟨H, AH.le_refl H, h⟩
      | true => rw [ho] at h; obtain ⟨ds, h⟩ := h; exact ⟨_, delL_le ds, h⟩
    obtain ⟨V, hVl, h⟩ := hV
    obtain ⟨m1, m2⟩ := hM hd
    have e1 : Ext w S σ H { w with drawn := w.drawn + 1 } S σ H := Ext.draw w S σ H 1
    refine wp_region_any hm (anyA_sound (nd := nd) (K := k) (V := V) (fun j o ho => hnd o (by rw [← Array.getElem?_toList] at ho; exact List.mem_of_getElem? ho)) _ _ env a _ S σ H (hr.world rfl) (hs.world rfl) hVl
      (fun hn j hj => hres hn j ?_) hB hBb (fun a' w' S' σ' env' H' q1 q2 q3 q4 q5 q6 => hQ a' w' S' σ' env' H' q1 q2 q3 (e1.trans q4) q5 q6) ?_)
    · exact ((firstK_zero r.ops.size).2 j).1 hj |>.2
    · have := anyA_lex m1 m2 r.ops.toList 0 (Array.replicate r.ops.size false) env V H (fun j => by simp) (by simp) (firstK_zero _) h
      simpa using this
theorem regA_sound {r : Reg} (hm : P.follows .mixedOrders = true) {M : Array Nat} (hM : r.draw = true → maskOk r.ops M = true ∧ freeOk P r.ops M = true)
    {Q : Exit → Act → World → Prop} {env : Env} {k : Env → AH → Prop} {a : Act} (hr : RepE n a w S σ env) (hs : Sat P w S σ H)
    (hQ : ∀ a' w' S' σ' env' H', k env' H' → RepE n a' w' S' σ' env' → Sat P w' S' σ' H' → Ext w S σ H w' S' σ' H' → H.nx ≤ H'.nx → (∀ j, j < H.nx → σ' j = σ j) → Q .normal a' w') (h : regA P n r env k H) : (Code.region r.id r.ops r.draw).wp P Q a w := by
  unfold regA at h
  cases hn : needsR P r.draw r.ops with
  | false =>
    rw [hn] at h
    refine regB_sound (nd := false) (B0 := H.nx) hm hM (fun o ho hc => ?_) hr hs (fun h => by cases h) (Nat.le_refl _) (fun h => by cases h) hQ h
    unfold needsR at hn
    rw [List.any_eq_false] at hn
    exact absurd hc (hn o ho)
  | true =>
    rw [hn] at h
    simp only [cond_true, Rg] at h
    refine regB_sound (nd := true) (B0 := H.nx) (H := H.up r.ops.size) hm hM (fun _ _ _ => rfl) hr (hs.up _) (fun _ j hj => ⟨by show H.nx + j < H.nx + r.ops.size; omega, ?_⟩) (Nat.le_add_right _ _) (fun _ => Nat.le_refl _) (fun a' w' S' σ' env' H' q1 q2 q3 q4 q5 q6 => hQ a' w' S' σ' env' H' q1 q2 q3 q4.ofUp (Nat.le_trans (Nat.le_add_right _ _) q5) q6) h
    cases hσ : σ (H.nx + j) with
    | none => rfl
    | some u => have := hs.dom _ _ hσ; omega
theorem marks_reg {k : Nat} {r : Reg} (hk : rs[k]? = some r) (h : marksOk P rs Ms (.reg k) = true) : r.draw = true → maskOk r.ops (Ms.getD k #[]) = true ∧ freeOk P r.ops (Ms.getD k #[]) = true := by
  intro hd
  simp only [marksOk, hk, hd, Bool.not_true, Bool.false_or, Bool.and_eq_true] at h
  exact h
theorem tmps_rps {a : Act} {env : Env} (hr : RepE n a w S σ env) (ws : List Tmp) : Rps w S σ (ws.map env) (ws.map fun t => a.tmps.getD t undef) := by
  induction ws with
  | nil => exact .nil
  | cons t ws ih => exact .cons (hr.at_ t) ih
/-- behind a new telling -/
theorem gw_step {B : AH} {w0 : World} {S0 : Nat → Prop} {σ0 : Nat → Option Value} {a0 a' : Act} {env env' : Env} {ws : List Tmp} {ks : List (Nat × Nat)} {vs' : List AV} {H' H2 : AH} (hs0 : Sat P w0 S0 σ0 B) (hr0 : RepE n a0 w0 S0 σ0 env)
    (hr : RepE n a' w S σ env') (hs : Sat P w S σ H') (hx : Ext w0 S0 σ0 B w S σ H') (hsame : Same (inW ws ks) env env') (hg : GW P B.nx (ws.map env') H' vs' H2) :
    ∃ S2 σ2, RepE n a' w S2 σ2 (ovr env ws ks vs') ∧ Sat P w S2 σ2 H2 ∧ Ext w0 S0 σ0 B w S2 σ2 H2 ∧ B.nx ≤ H2.nx ∧ vs'.length = ws.length ∧ ∀ j, j < B.nx → σ2 j = σ j := by
  obtain ⟨S2, σ2, g1, g2, g3, g4, g5, g6, g7⟩ := hg w S σ _ hs (tmps_rps hr ws)
  refine ⟨S2, σ2, ⟨hr.size, hr.defers, fun t => ?_⟩, g1, ⟨hx.os, hx.tape, hx.output, hx.size, hx.keep, fun b hb => g3 b (hx.sup b hb), fun b hb => ?_, fun b hb => hx.foot b (g5 b hb), fun id u hu => ?_⟩, g7, by rw [g2.1]; simp, g6⟩
  · unfold ovr
    cases hi' : idxOf t ws 0 with
    | some i =>
      obtain ⟨_, h3⟩ := idx_mem hi'
      rw [Nat.sub_zero] at h3
      have hlt : i < vs'.length := by rw [g2.1, List.length_map]; exact (List.getElem?_eq_some_iff.1 h3).1
      dsimp only
      rw [List.getD_eq_getElem?_getD, List.getElem?_eq_getElem hlt, Option.getD_some]
      exact g2.2 i _ _ (List.getElem?_eq_getElem hlt) (by rw [List.getElem?_map, h3]; rfl)
    | none =>
      dsimp only
      cases hb : inIv ks t with
      | true => exact .any _
      | false =>
        have hin : inW ws ks t = false := by unfold inW; rw [hi', hb]; rfl
        have hse := hsame t hin
        have h1 := hr.at_ t
        rw [hse] at h1
        exact h1.re g3 g6 ⟨w0, S0, σ0, _, hr0.at_ t, hs0.dom⟩
  · rcases g4 b hb with h | h
    · exact hx.sub b h
    · exact .inr (hx.foot b h)
  · rw [g6 id (hs0.dom _ _ hu)]; exact hx.sig _ _ hu
theorem least_ex {p : Nat → Prop} : ∀ m, p m → ∃ m, p m ∧ ∀ k, p k → m ≤ k := by
  intro m
  induction m using Nat.strongRecOn with
  | _ m ih =>
    intro hm
    by_cases h : ∃ k, k < m ∧ p k
    · obtain ⟨k, hk, hp⟩ := h; exact ih k hk hp
    · exact ⟨m, hm, fun k hk => Nat.le_of_not_lt fun hlt => h ⟨k, hlt, hk⟩⟩
noncomputable def leastN (p : Nat → Prop) : Nat := Classical.epsilon fun m => p m ∧ ∀ k, p k → m ≤ k
theorem least_spec {p : Nat → Prop} (h : ∃ m, p m) : p (leastN p) ∧ ∀ k, p k → leastN p ≤ k := by
  obtain ⟨m, hm⟩ := h
  exact Classical.epsilon_spec (least_ex m hm)
theorem wpA_sound (hm : P.follows .mixedOrders = true) : ∀ (c : AC) (env : Env) (K : Knt) (a : Act) (w : World) (S : Nat → Prop) (σ : Nat → Option Value) (H : AH), marksOk P rs Ms c = true → RepE n a w S σ env → Sat P w S σ H → wpA P n rs c env K H →
    (erase rs c).wp P (fun e => St P n w S σ H (K e)) a w := by
  intro c
  induction c with
  | skip => exact fun env K a w S σ H _ hr hs h => wp_skip ⟨env, H, S, σ, h, hr, hs, .refl _ _ _ _, Nat.le_refl _, fun _ _ => rfl⟩
  | ret => exact fun env K a w S σ H _ hr hs h => wp_ret ⟨env, H, S, σ, h, hr, hs, .refl _ _ _ _, Nat.le_refl _, fun _ _ => rfl⟩
  | exit id => exact fun env K a w S σ H _ hr hs h => wp_exit ⟨env, H, S, σ, h, hr, hs, .refl _ _ _ _, Nat.le_refl _, fun _ _ => rfl⟩
  | label l => exact fun env K a w S σ H _ hr hs h => wp_label ⟨env, H, S, σ, h, hr, hs, .refl _ _ _ _, Nat.le_refl _, fun _ _ => rfl⟩
  | reg k =>
    intro env K a w S σ H hmk hr hs h
    simp only [wpA] at h
    cases hk : rs[k]? with
    | none => rw [hk] at h; simp only [erase, hk]; exact wp_skip ⟨env, H, S, σ, h, hr, hs, .refl _ _ _ _, Nat.le_refl _, fun _ _ => rfl⟩
    | some r =>
      rw [hk] at h
      simp only [erase, hk]
      exact regA_sound hm (marks_reg hk hmk) hr hs (fun a' w' S' σ' env' H' q1 q2 q3 q4 q5 q6 => ⟨env', H', S', σ', q1, q2, q3, q4, q5, q6⟩) h
  | seq x y ihx ihy =>
    intro env K a w S σ H hmk hr hs h
    simp only [marksOk, Bool.and_eq_true] at hmk
    refine wp_seq (wp_mono (ihx env _ a w S σ H hmk.1 hr hs h) fun e a' w' hst => ?_)
    obtain ⟨env', H', S', σ', q1, q2, q3, q4, q5, q6⟩ := hst
    cases e <;> first
      | (refine wp_mono (ihy env' K a' w' S' σ' H' hmk.2 q2 q3 q1) ?_
         rintro e2 a2 w2 ⟨env2, H2, S2, σ2, r1, r2, r3, r4, r5, r6⟩
         exact ⟨env2, H2, S2, σ2, r1, r2, r3, q4.trans r4, Nat.le_trans q5 r5, fun j hj => (r6 j (by omega)).trans (q6 j hj)⟩)
      | exact ⟨env', H', S', σ', q1, q2, q3, q4, q5, q6⟩
  | cut ws ks x y ihx ihy =>
    intro env K a w S σ H hmk hr hs h
    simp only [marksOk, Bool.and_eq_true] at hmk
    obtain ⟨⟨hw, hmx⟩, hmy⟩ := hmk
    obtain ⟨J, h1, h2⟩ := h
    refine wp_seq (wp_mono (ihx env _ a w S σ H hmx hr hs (wpA_frame x env _ H hw h1)) fun e a' w' hst => ?_)
    obtain ⟨env', H', S', σ', ⟨q1, qs⟩, q2, q3, q4, q5, q6⟩ := hst
    cases e <;> first
      | (obtain ⟨vs', H2, hg, hj⟩ := q1
         obtain ⟨S2, σ2, g1, g2, g3, g4, g5, g6⟩ := gw_step hs hr q2 q3 q4 qs hg
         refine wp_mono (ihy _ K a' w' S2 σ2 H2 hmy g1 g2 (h2 vs' H2 g5 g4 ⟨_, _, _, g2⟩ hj)) ?_
         rintro e2 a2 w2 ⟨env2, H3, S3, σ3, r1, r2, r3, r4, r5, r6⟩
         exact ⟨env2, H3, S3, σ3, r1, r2, r3, g3.trans r4, Nat.le_trans g4 r5, fun j hj => (r6 j (by omega)).trans ((g6 j hj).trans (q6 j hj))⟩)
      | exact ⟨env', H', S', σ', q1, q2, q3, q4, q5, q6⟩
  | cond c x y ihx ihy =>
    intro env K a w S σ H hmk hr hs h
    simp only [marksOk, Bool.and_eq_true] at hmk
    obtain ⟨t, h1, h2, h3⟩ := h
    have hc := hr.ev c
    rw [h1] at hc
    have hv := hc.p_inv.1
    cases t with
    | true => exact wp_cond_true hv (ihx env K a w S σ H hmk.1 hr hs (h2 rfl))
    | false => exact wp_cond_false hv (ihy env K a w S σ H hmk.2 hr hs (h3 rfl))
  | block id x ihx =>
    intro env K a w S σ H hmk hr hs h
    refine wp_block (wp_mono (ihx env _ a w S σ H hmk hr hs h) fun e a' w' hst => ?_)
    obtain ⟨env', H', S', σ', q1, q2, q3, q4, q5, q6⟩ := hst
    cases e <;> first | exact ⟨env', H', S', σ', q1, q2, q3, q4, q5, q6⟩ | skip
    rename_i id'
    simp only [blockK] at q1
    simp only [Exit.inBlock]
    split at q1
    · rename_i hi; rw [if_pos hi]; exact ⟨env', H', S', σ', q1, q2, q3, q4, q5, q6⟩
    · rename_i hi; rw [if_neg hi]; exact ⟨env', H', S', σ', q1, q2, q3, q4, q5, q6⟩
  | loop ws ks x ihx =>
    intro env K a w S σ H hmk hr hs h
    simp only [marksOk, Bool.and_eq_true] at hmk
    obtain ⟨hw, hmx⟩ := hmk
    obtain ⟨I, μ, h0, hround⟩ := h
    -- the state at the loop's head, with its measure
    let At (m : Nat) (a' : Act) (w' : World) : Prop := ∃ vs H1 S1 σ1, vs.length = ws.length ∧ H.nx ≤ H1.nx ∧ I vs H1 ∧ μ vs H1 = m ∧ RepE n a' w' S1 σ1 (ovr env ws ks vs) ∧ Sat P w' S1 σ1 H1 ∧ Ext w S σ H w' S1 σ1 H1 ∧ ∀ j, j < H.nx → σ1 j = σ j
    refine wp_loop (fun a' w' => ∃ m, At m a' w') (fun a' w' => leastN fun m => At m a' w') ?_ ?_
    · obtain ⟨vs', H2, hg, hj⟩ := h0
      obtain ⟨S2, σ2, g1, g2, g3, g4, g5, g6⟩ := gw_step hs hr hr hs (.refl _ _ _ _) (.refl _) hg
      exact ⟨_, vs', H2, S2, σ2, g5, g4, hj, rfl, g1, g2, g3, g6⟩
    · intro a' w' hex
      obtain ⟨vs, H1, S1, σ1, k1, k2, k3, k4, k5, k6, k7, k8⟩ := (least_spec hex).1
      refine wp_mono (ihx (ovr env ws ks vs) _ a' w' S1 σ1 H1 hmx k5 k6 (wpA_frame x _ _ H1 hw (hround vs H1 k1 k2 ⟨_, _, _, k6⟩ k3))) fun e a2 w2 hst => ?_
      obtain ⟨env', H', S', σ', ⟨q1, qs⟩, q2, q3, q4, q5, q6⟩ := hst
      cases e <;> first
        | (obtain ⟨vs', H2, hg, hj, hlt⟩ := q1
           have qs' : Same (inW ws ks) env env' := fun t ht => by
             rw [qs t ht]
             unfold ovr
             unfold inW at ht
             simp only [Bool.or_eq_false_iff] at ht
             obtain ⟨t1, t2⟩ := ht
             cases hx : idxOf t ws 0 with
             | some i => rw [hx] at t1; cases t1
             | none => dsimp only; rw [t2]; rfl
           obtain ⟨S2, σ2, g1, g2, g3, g4, g5, g6⟩ := gw_step hs hr q2 q3 (k7.trans q4) qs' hg
           have hat : At (μ vs' H2) a2 w2 := ⟨vs', H2, S2, σ2, g5, g4, hj, rfl, g1, g2, g3, fun j hj => (g6 j hj).trans ((q6 j (by omega)).trans (k8 j hj))⟩
           refine ⟨⟨_, hat⟩, ?_⟩
           have h5 := (least_spec (p := fun m => At m a2 w2) ⟨_, hat⟩).2 _ hat
           rw [k4] at hlt
           exact Nat.lt_of_le_of_lt h5 hlt)
        | exact ⟨env', H', S', σ', q1, q2, q3, k7.trans q4, Nat.le_trans k2 q5, fun j hj => (q6 j (by omega)).trans (k8 j hj)⟩
  | scope x ihx =>
    intro env K a w S σ H hmk hr hs h
    refine wp_scope_straight (wp_mono (ihx env _ a w S σ H hmk hr hs h) fun e a' w' hst => ?_)
    obtain ⟨env', H', S', σ', q1, q2, q3, q4, q5, q6⟩ := hst
    cases e <;> first | exact q1.elim | exact ⟨env', H', S', σ', q1, q2, q3, q4, q5, q6⟩
  | gh x ihx =>
    intro env K a w S σ H hmk hr hs h
    obtain ⟨H2, ⟨g1, g2⟩, h2⟩ := h
    obtain ⟨S2, k1, k2, k3, k4⟩ := g2 w S σ hs
    have e1 : Ext w S σ H w S2 σ H2 := ⟨rfl, rfl, rfl, Nat.le_refl _, fun _ _ _ => rfl, k2, fun b hb => (k3 b hb).elim .inl (fun h => .inr (.inl h)), fun b hb => .inl (k4 b hb), fun _ _ h => h⟩
    refine wp_mono (ihx env K a w S2 σ H2 hmk (hr.ext hs e1) k1 h2) ?_
    rintro e a' w' ⟨env', H', S', σ', q1, q2, q3, q4, q5, q6⟩
    exact ⟨env', H', S', σ', q1, q2, q3, e1.trans q4, Nat.le_trans g1 q5, fun j hj => q6 j (by omega)⟩
  | fk k t =>
    intro env K a w S σ H hmk hr hs h
    simp only [wpA] at h
    simp only [marksOk] at hmk
    cases hk : rs[k]? with
    | none => rw [hk] at h; simp only [erase, hk]; exact wp_skip ⟨env, H, S, σ, h, hr, hs, .refl _ _ _ _, Nat.le_refl _, fun _ _ => rfl⟩
    | some r =>
      rw [hk] at h hmk
      simp only [Bool.and_eq_true] at hmk
      obtain ⟨hd, hok⟩ := hmk
      simp only [erase, hk, hd]
      simp only [fkR, Rg] at h
      have e1 : Ext w S σ (H.up r.ops.size) { w with drawn := w.drawn + 1 } S σ (H.up r.ops.size) := Ext.draw w S σ _ 1
      refine wp_region_lin hm (fk_lin (P := P) (w := { w with drawn := w.drawn + 1 }) (Q := fun e => St P n w S σ H (K e)) (k := K .normal) (b := H.nx) (B0 := H.nx) (H := H.up r.ops.size) (hr.world rfl) ((hs.up _).world rfl) (Nat.le_add_right _ _) (Nat.le_refl _)
        (fun a' w' S' σ' env' H' q1 q2 q3 q4 q5 q6 => ⟨env', H', S', σ', q1, q2, q3, (e1.trans q4).ofUp, Nat.le_trans (Nat.le_add_right _ _) q5, q6⟩) t r.ops (fun j hj => ⟨by show H.nx + j < H.nx + r.ops.size; omega, ?_⟩) hok h)
      cases hσ : σ (H.nx + j) with
      | none => rfl
      | some u => have := hs.dom _ _ hσ; omega
def regsF (f : Func) : List Reg := match f.body with
  | some c => regsOf c
  | none => []
def env0 (args : List AV) : Env := fun t => args.getD t .any
/-- a result: a variable, or what lies at an address -/
inductive RV where
  | tm (x : Tmp)
  | ce (x : Tmp) (ty : TypeId)
def RV.var : RV → ResultVar
  | .tm x => .tmp x
  | .ce x ty => .cell x ty
def mkR : List AV → AV
  | [a] => a
  | l => .tup l
def mkV : List Value → Value
  | [a] => a
  | l => .tuple l.toArray
def retL (P : Program) : List RV → Env → List AV → (List AV → AH → Prop) → AH → Prop
  | [], _, acc, k => k acc
  | .tm t :: r, env, acc, k => retL P r env (acc ++ [env t]) k
  | .ce a ty :: r, env, acc, k => match aggB P ty, P.info? ty with
    | some b, some i => RdS P (.ld i.size b) [env a] (fun v => retL P r env (acc ++ [v]) k)
    | _, _ => fun _ => False
def runRV (tmps : Array Value) : ResultVar → Sem Value
  | .tmp t => pure (tmps.getD t undef)
  | .cell a t => do loadVar t (← asAddr (tmps.getD a undef))
theorem Rps.mk {ps : List AV} {vs : List Value} (h : Rps w S σ ps vs) : Rp w S σ (mkR ps) (mkV vs) := by
  obtain ⟨hl, h⟩ := h
  match ps, vs, hl with
  | [], [], _ => exact Rps.tup (by simpa using Rps.nil)
  | [a], [v], _ => exact h 0 a v rfl rfl
  | a :: b :: r, v :: u :: q, hl => exact Rps.tup (by exact ⟨hl, h⟩)
theorem retL_sound {a : Act} {env : Env} (hr : RepE n a w S σ env) (hs : Sat P w S σ H) : ∀ (res : List RV) (acc : List AV) (k : List AV → AH → Prop), retL P res env acc k H →
    ∃ ps vs, k (acc ++ ps) H ∧ Rps w S σ ps vs ∧ ((res.map RV.var).mapM (runRV a.tmps)).run P w = .ok vs w
  | [], acc, k, h => ⟨[], [], by simpa [retL] using h, .nil, rfl⟩
  | .tm t :: r, acc, k, h => by
    obtain ⟨ps, vs, h1, h2, h3⟩ := retL_sound hr hs r _ k h
    exact ⟨env t :: ps, _ :: vs, by simpa using h1, .cons (hr.at_ t) h2, by simp only [List.map_cons, RV.var, List.mapM_cons, runRV, Sem.run_bind, Sem.run_pure, Result.andThen_ok, h3]⟩
  | .ce x ty :: r, acc, k, h => by
    simp only [retL] at h
    cases hb : aggB P ty with
    | none => rw [hb] at h; exact h.elim
    | some b =>
      cases hi : P.info? ty with
      | none => rw [hb, hi] at h; exact h.elim
      | some i =>
        rw [hb, hi] at h
        obtain ⟨v, hv, hk⟩ := h
        obtain ⟨ps, vs, h1, h2, h3⟩ := retL_sound hr hs r _ k hk
        have ho : Val1 P w S σ a.eval { dst := none, op := .load ty (.tmp x), type := ty, pos := "", after := #[], guard := none } v := rd_load hs rfl hb hi hv (hr.evs [.tmp x])
        obtain ⟨u, hu, hru⟩ := ho
        have hl : (do loadVar ty (← asAddr (a.tmps.getD x undef)) : Sem Value).run P w = .ok u w := by
          have hp : ∃ ad, a.tmps.getD x undef = .pointer (some ad) := by
            have hx := hr.at_ x
            cases hv with
            | ld_agg _ _ _ hat _ => obtain ⟨g, off, e, _⟩ := at_sound hs hat hx; exact ⟨_, e⟩
            | ld_one _ _ _ _ hat _ => obtain ⟨g, off, e, _⟩ := at_sound hs hat hx; exact ⟨_, e⟩
          obtain ⟨ad, hp⟩ := hp
          rw [hp]
          have hev : a.eval (.tmp x) = .pointer (some ad) := hp
          simp only [execOp, hev, Instr.loadAt, Instr.sureAddr, Sem.run_bind, Sem.run_pure, Result.andThen_ok] at hu
          simp only [asAddr, Sem.run_bind, Sem.run_pure, Result.andThen_ok]
          cases hq : (loadVar ty ad).run P w with
          | ok q w2 => rw [hq] at hu; simp only [Result.andThen_ok, Result.ok.injEq, Next.value.injEq] at hu; obtain ⟨rfl, rfl⟩ := hu; rfl
          | halt q w2 => rw [hq] at hu; cases hu
        refine ⟨v :: ps, u :: vs, by simpa using h1, .cons hru h2, ?_⟩
        simp only [List.map_cons, RV.var, List.mapM_cons, runRV, Sem.run_bind, hl, Result.andThen_ok, h3, Sem.run_pure]
theorem results_run {fn : Func} {tmps : Array Value} {l : List ResultVar} (h : fn.results = l.toArray) {vs : List Value} (hv : (l.mapM (runRV tmps)).run P w = .ok vs w) : (results fn tmps).run P w = .ok (mkV vs) w := by
  have hf : results fn tmps = (fn.results.mapM (runRV tmps) >>= fun us => pure (if h : us.size = 1 then us[0] else .tuple us)) := by
    unfold results
    congr 2
  rw [hf, h, Array.mapM_eq_mapM_toList, List.toList_toArray]
  simp only [Sem.run_bind, Sem.run_map, hv, Result.andThen_ok, Sem.run_pure]
  match vs with
  | [] => rfl
  | [v] => rfl
  | v :: u :: r => simp [mkV]
def Rt (P : Program) (B : Nat) (r : AV) (Q : AV → AH → Prop) (H : AH) : Prop := Gh P B [r] H (fun vs H2 => ∃ r', vs = [r'] ∧ Q r' H2)
def retK (P : Program) (B : Nat) (res : List RV) (Q : AV → AH → Prop) : Knt
  | .ret, env, H => retL P res env [] (fun l => Rt P B (mkR l) Q) H
  | .normal, env, H => retL P res env [] (fun l => Rt P B (mkR l) Q) H
  | _, _, _ => False
def FnA (P : Program) (n : Nat) (rs : List Reg) (c : AC) (res : List RV) (args : List AV) (H : AH) (Q : AV → AH → Prop) : Prop := wpA P n rs c (env0 args) (retK P H.nx res Q) H
/-- the contract of a function -/
theorem tri_of (hm : P.follows .mixedOrders = true) {f : FuncId} {fn : Func} {body : Code} {c : AC} {res : List RV} {args : List AV} {Q : AV → AH → Prop} (hf : P.funcs[f]? = some fn) (hb : fn.body = some body) (he : erase rs c = body) (hmk : marksOk P rs Ms c = true)
    (hres : fn.results.toList = res.map RV.var) (hn : args.length ≤ fn.ntmps) (h : FnA P fn.ntmps rs c res args H Q) : Tri P f args H Q := by
  intro w S σ us hs hr
  refine calls_of_wp hf hb ?_
  rw [← he]
  have hul : us.length = args.length := hr.1.symm
  have hrep : RepE fn.ntmps { tmps := us.toArray ++ Array.replicate (fn.ntmps - us.toArray.size) undef, defers := [] } w S σ (env0 args) := by
    refine ⟨by simp; omega, rfl, fun t => ?_⟩
    unfold env0
    by_cases ht : t < args.length
    · rw [List.getD_eq_getElem?_getD, List.getElem?_eq_getElem ht, Option.getD_some, Array.getD_eq_getD_getElem?, Array.getElem?_append_left (by simp; omega)]
      have htu : t < us.length := by omega
      rw [List.getElem?_toArray, List.getElem?_eq_getElem htu, Option.getD_some]
      exact hr.2 t _ _ (List.getElem?_eq_getElem ht) (List.getElem?_eq_getElem htu)
    · rw [List.getD_eq_getElem?_getD, List.getElem?_eq_none (by omega), Option.getD_none]
      exact .any _
  refine wp_mono (wpA_sound (Ms := Ms) hm c _ _ _ w S σ H hmk hrep hs h) ?_
  rintro e a' w' ⟨env', H', S', σ', q1, q2, q3, q4, q5, q6⟩
  have fin : ∀ (_ : retL P res env' [] (fun l => Rt P H.nx (mkR l) Q) H'), bodyPost P fn (fun e w' => ∃ v S' σ' r H', e = .returned v ∧ Q r H' ∧ Sat P w' S' σ' H' ∧ Rp w' S' σ' r v ∧ Ext w S σ H w' S' σ' H' ∧ H.nx ≤ H'.nx ∧ ∀ id, id < H.nx → σ' id = σ id) .ret a' w' := by
    intro hret
    obtain ⟨ps, vs, ⟨_, H2, hg, r, rfl, hq⟩, hps, hrun⟩ := retL_sound q2 q3 res [] _ hret
    have hrv := results_run (P := P) (w := w') (tmps := a'.tmps) (Array.toList_inj.1 (by rw [hres]) : fn.results = (res.map RV.var).toArray) hrun
    have hrp : Rps w' S' σ' [mkR ([] ++ ps)] [mkV vs] := .cons (by simpa using hps.mk) .nil
    obtain ⟨S2, σ2, g1, g2, g3, g4, g5, g6, g7⟩ := hg w' S' σ' _ q3 hrp
    refine ⟨q2.defers, _, hrv, _, S2, σ2, r, H2, rfl, hq, g1, g2.2 0 _ _ rfl rfl, ⟨q4.os, q4.tape, q4.output, q4.size, q4.keep, fun b hb => g3 b (q4.sup b hb), fun b hb => ?_, fun b hb => q4.foot b (g5 b hb), fun id u hu => ?_⟩, g7, fun id hid => ?_⟩
    · rcases g4 b hb with h | h
      · exact q4.sub b h
      · exact .inr (q4.foot b h)
    · rw [g6 id (hs.dom _ _ hu)]; exact q4.sig _ _ hu
    · rw [g6 id hid]; exact q6 id hid
  cases e <;> first | exact fin q1 | exact q1.elim
end
end Go.Proofs.Ytgkkilbeingleaa
